/-
  Proved here: parts of this claim.
  Conditions: told at each.
-/
import Derived.Shelf.SlLaysF0
import Derived.Test.YtnanheiakfekdaaGreatDoorProg
import Derived.Shelf.SortG.Plain
import Derived.Shelf.SortG.SortNone
import Derived.Shelf.SlSortCmp.NoneTotal
import Derived.Shelf.Strings.BuilderK
import Derived.Shelf.SlLaysF
import Derived.Test.YtnanheiakfekdaaGreatDoorU2
set_option maxHeartbeats 2000000
set_option linter.unusedSectionVars false
set_option linter.unusedVariables false
set_option linter.unusedSimpArgs false
namespace Go.Proofs
open Go.Shelf Tryz
def Tryz.sortS_ren:Go.Shelf.Ren:=⟨fun|6=>245|15=>201|14=>328|28=>284|29=>265|20=>372|21=>373|22=>374|23=>375|24=>376|25=>377|26=>378|27=>379|46=>394|47=>352|48=>353|49=>395|50=>396|57=>416|n=>n,fun|22=>233|24=>341|25=>351|3=>3|39=>186|0=>0|53=>277|55=>281|4=>4|46=>375|45=>374|50=>70|5=>5|9=>9|66=>436|70=>440|76=>484|77=>485|n=>n,fun|n=>n⟩
theorem Tryz.sortS:Go.Proofs.SlLaysF0.n6 prog Tryz.sortS_ren:={
 mixed:=by kernel_rfl
 f6:=⟨f245.name,by decide,W.ff func245⟩
 f14:=⟨f328.name,by decide,W.ff func328⟩
 f15:=W.ff func201
 f20:=⟨f372.name,by decide,W.ff func372⟩
 f21:=⟨f373.name,by decide,W.ff func373⟩
 f22:=⟨f374.name,by decide,W.ff func374⟩
 f23:=⟨f375.name,by decide,W.ff func375⟩
 f24:=⟨f376.name,by decide,W.ff func376⟩
 f25:=⟨f377.name,by decide,W.ff func377⟩
 f26:=⟨f378.name,by decide,W.ff func378⟩
 f27:=⟨f379.name,by decide,W.ff func379⟩
 f28:=W.ff func284
 f29:=W.ff func265
 f46:=⟨f394.name,by decide,W.ff func394⟩
 f47:=W.ff func352
 f48:=W.ff func353
 f49:=⟨f395.name,by decide,W.ff func395⟩
 f50:=⟨f396.name,by decide,W.ff func396⟩
 f57:=⟨f416.name,by decide,W.ff func416⟩
 t0:=underlying0
 a0:=isAgg0
 z0:=sizeOf0
 v0:=zeroValue0
 t3:=underlying3
 a3:=isAgg3
 z3:=sizeOf3
 v3:=zeroValue3
 t4:=underlying4
 a4:=isAgg4
 z4:=sizeOf4
 v4:=zeroValue4
 t5:=underlying5
 a5:=isAgg5
 z5:=sizeOf5
 v5:=zeroValue5
 t9:=underlying9
 a9:=isAgg9
 z9:=sizeOf9
 v9:=zeroValue9
 t22:=underlying233
 a22:=isAgg233
 z22:=sizeOf233
 v22:=zeroValue233
 t25:=underlying351
 a25:=isAgg351
 z25:=sizeOf351
 v25:=zeroValue351
 t39:=underlying186
 a39:=isAgg186
 z39:=sizeOf186
 v39:=zeroValue186
 t45:=underlying374
 a45:=isAgg374
 z45:=sizeOf374
 v45:=zeroValue374
 t46:=underlying375
 a46:=isAgg375
 z46:=sizeOf375
 v46:=zeroValue375
 t50:=underlying70
 a50:=isAgg70
 z50:=sizeOf70
 v50:=zeroValue70
 t53:=underlying277
 a53:=isAgg277
 z53:=sizeOf277
 v53:=zeroValue277
 t55:=underlying281
 a55:=isAgg281
 z55:=sizeOf281
 v55:=zeroValue281
 t66:=underlying436
 a66:=isAgg436
 z66:=sizeOf436
 v66:=zeroValue436
 t70:=underlying440
 a70:=isAgg440
 z70:=sizeOf440
 v70:=zeroValue440
 t76:=underlying484
 a76:=isAgg484
 z76:=sizeOf484
 v76:=zeroValue484
 t77:=underlying485
 a77:=isAgg485
 z77:=sizeOf485
 v77:=zeroValue485 }
end Go.Proofs
namespace Go.W
open Go Go.Proofs
open AK (enc)
set_option maxRecDepth 10000
variable {B i j k m n n2:Nat} {D R:Nat -> Prop} {P:Program} {T:Ce} {a a' a2:OA} {g:An} {ps:List Int} {u u' w w':World}
theorem zJY{b c size:Nat}{L:List AN}(S:Ci R B w b c size L):
  Sp PP 114 #[.pointer (some ⟨b,0,none⟩)] w λv w'=>v=.int .i64 (L.length:Nat)/\AC w w':=by
 obtain⟨d,ta,tc,ts,e,f,fr,h,st,l,m,o,H,T,M,C,Z⟩:=S;refine eN ?_;refine Dy (rX H.cell rfl (AA (WL H.tab) ?_));rintro v w1 ⟨rfl,p⟩;rw[T.len M];exact⟨rfl,stp⟩
instance:Inhabited AN:=⟨LK⟩
def UB (a b:AN):Int:=Mv [Bl a.key.dir b.key.dir,Bl a.key.v b.key.v]
theorem jJ(a b:AN):UB a b<0↔a.key.dir<b.key.dir\/a.key.dir=b.key.dir/\a.key.v<b.key.v:=by simp[UB,LP,or_nil]
theorem rB:Go.Sort.SWO (ltOf UB):=Lc (λa b=>a.key.dir<b.key.dir\/a.key.dir=b.key.dir/\a.key.v<b.key.v) jJ (λx h=>by omega) (λx y z h k=>by omega) (λx y z h k=>by omega)
theorem zJP{a b:AN}:Sp PP 329 #[agg a,agg b] w λv w'=>v=.int .i64 (UB a b)/\Gw w w':=by
 refine eN ?_;refine BM λo w1 n1 c=>BM λbb p n2 d=>HO Aa mixed (λ_=>False) (.one 0 (.one 1 (.one 2 (.one 3 (.one 4 (.one 5 (.one 7 (.one 8 (.one 9 (.one 10 (.one 11 (.one 12 (.one 6 (.one 13 (.one 14 (.one 15 (.one 16 .nil))))))))))))))))) (by kernel_rfl) λq r h=>?_;refine tX c rfl nf (tX d rfl nf ?_);refine tX c rfl nf (tX d rfl nf ?_);refine AA Ms ?_;rintro v s ⟨rfl,rfl⟩;refine⟨Fr.refl _ _,?_⟩;refine AA Ms ?_;rintro v t ⟨rfl,rfl⟩;refine⟨Fr.refl _ _,?_⟩;refine OZ [Bl a.key.dir b.key.dir,Bl a.key.v b.key.v] rfl (vs:=[.int .i64 (Bl a.key.dir b.key.dir),.int .i64 (Bl a.key.v b.key.v)]) rfl rfl (by decide) λx y f l=>⟨f.e,?_⟩;refine AA (XW l (by simp)) ?_;rintro v z ⟨rfl,rfl⟩;refine⟨Fr.refl _ _,?_⟩;exact⟨rfl,n1.gw.trans (n2.gw.trans (h.trans f.gw))⟩
theorem zL5{b gs size:Nat}{L:List AN}{s:Int}(S:Ci R B w b gs size L):
  Sp PP 248 #[.pointer (some ⟨b,0,none⟩),.int .i64 s] w λv w'=>AD w.heap.size 341 w' v (N1 L s)/\AC w w':=by
 obtain⟨bt,ta,tc,ts,fa,fc,fr,sc,st,bm,m,q,H,T,M,C,Z⟩:=S;have c:=T.of M C s;have Q:(N1 L s).length<=L.length:=Qv _ _;have h1:=T.len M;have h2:=T.cnt;have h3:=T.ok.2.1;have t:=c.length_eq;rw[Qr]at t;have G:=H.look s;obtain⟨h,_⟩:=G;refine eN ?_;refine Dy (rX H.cell rfl (Hk H.map s rfl ?_));have l:∃U,U=(Au m s).getD (.slice none 0 0):=⟨_,rfl⟩;obtain⟨U,I⟩:=l;rw[<-I]at h ⊢;have l:=h.shape;obtain⟨ca,cc,rfl⟩:=l;refine cO 17 [7] 5 17 (q s).length (λk v u=>AD w.heap.size 341 u v (((q s).take k).map λn=>st.getD n.toNat LK)/\AC w u) ⟨AD.nil _ _ _,stp⟩ ?_;rintro k v g u hk ⟨O,e⟩;refine ite (λAY=>?_) (λa0=>?_)
 ·have o:k<(q s).length:=by omega
  refine Bv (h.sl.up (w':=u)) (x:=(q s)[k]) (by simp) λb4 o4 A4=>AF (A4.cell0 rfl) ?_;have z:=(C s).2 (q s)[k];have l:=z.1 (Qa o);obtain⟨p,F,_,x,V,_⟩:=l;have X:=H.up (w':=u);refine rX X.cell rfl ?_;rw[F];refine Fs rfl X.sts (x:=x) V λg hg _ A=>Ai A rfl (bS x λb7 u7 e7 _ S7=>Ax (u:=w) ⟨rfl,rfl⟩ (O.up (w':=u7)) S7 (by simp;omega) λv8 u8 O8 f8 s8=>rA ⟨rfl,o,?_,stp⟩);rw[Cs o,QB,F];have:([(p:Int)].map λn=>st.getD n.toNat LK)=[x]:=by simp[V]
  rw[this];exact O8
 ·have l:k=(q s).length:=by omega
  obtain rfl:=l;rw[Qg]at O;refine AA (W1 Tryz.sortS (k:=4) (show FZ PP 341 4 from inferInstance) rfl UB rB (f:=245) rfl (λx y W=>zJP) O (by simp;omega)) ?_;rintro r u1 ⟨rfl,l',F,hs,O1,f1⟩;have s1:Gl w u u1:=Mu f1;have d:=F.trans c
  have J:l'=N1 L s:=by
   refine CE.uniq ?_ (M.ris.sublist (XY ..)) λx=>d.mem_iff;have E:l'.Nodup:=d.nodup_iff.2 (M.ris.nodup.filter _);rw[Qx]at E;refine Vv (λ{a b} ha hb Y=>?_) (hs.and E);have K:=QC.1 (d.mem_iff.1 ha);have N:=QC.1 (d.mem_iff.1 hb);have a1:a.key.slot=s:=by simp_all
   have a3:b.key.slot=s:=by simp_all
   refine ZY (λhl=>Y.1 ((jJ _ _).2 ?_)) (λhe=>Y.2 (M.ris.inj K.1 N.1 he.symm));unfold Bw at hl;omega
  rw[<-J];exact⟨O1,stp⟩
section
variable {B:Nat} {w u:World} {b gs size bt:Nat} {ta:OA} {tc:Nat} {ts ts':TS} {fa a':OA} {fc c':Nat} {fr fr':List Int} {sc:Nat} {st:List AN} {bm:Nat} {m:List (Int×Value)} {ch:Int->List Int}
theorem Ep.tabd(h:Ep B w b gs size bt ta tc ts fa fc fr sc st bm m ch)(T:FV B u bt ta tc size ts')(f:BQ B bO w u):Ep B u b gs size bt ta tc ts' fa fc fr sc st bm m ch:=
 ⟨h.lo,h.cell.kept f (by decide),T,h.free.kept f (by decide),h.sts.kept f (by decide),h.map.kept f (by decide),λs v c=>⟨(h.rows s v c).1.kept f (by decide),(h.rows s v c).2⟩,h.empt,h.apart,h.apart2⟩
theorem Ep.pooled(h:Ep B w b gs size bt ta tc ts fa fc fr sc st bm m ch){w0:World}(O:AD w0.heap.size 3 w (.slice a' fr'.length c') fr')(d:∀s v,(s,v)∈m->∀g,Value.blk v=some g->g<w0.heap.size)
  (C:Bk u b [.pointer (some ⟨bt,0,none⟩),.int .i64 size,.slice a' fr'.length c',.slice (some ⟨gs,0,none⟩) size sc,.map (some bm)] 236)(f:Fr (λi=>i=b) w u):Ep B u b gs size bt ta tc ts a' c' fr' sc st bm m ch/\BQ B [236] w u:=by
 have F:BQ B [236] w u:=h.cell.wrote f h.lo.1 (by decide);refine⟨⟨h.lo,C,h.tab.kept F (by decide) (by decide),O.y.kept F (by decide),h.sts.kept F (by decide),h.map.kept F (by decide),λs v c=>⟨(h.rows s v c).1.kept F (by decide),(h.rows s v c).2⟩,h.empt,h.apart,λe s v c g o l=>?_⟩,F⟩;have p:=O.lt e;obtain⟨r,q,t,_⟩:=p;rw[q]at l;cases l;have:=d s v c _ o;omega
theorem Ep.rowlt(h:Ep B w b gs size bt ta tc ts fa fc fr sc st bm m ch):∀s v,(s,v)∈m->∀g,Value.blk v=some g->g<w.heap.size:=λs v l g f=>by
 have d:=h.rows s v l;obtain⟨e,c⟩:=d;have d:=e.lt c;obtain⟨q,o,_,p⟩:=d;rw[o]at f;cases f;exact p
theorem Ep.del(h:Ep B w b gs size bt ta tc ts fa fc fr sc st bm m ch)(s:Int)(M:BO PP 3 u bm (GL s m))(f:Fr (λi=>i=bm) w u):
  Ep B u b gs size bt ta tc ts fa fc fr sc st bm (GL s m) (λs'=>if s'=s then[] else ch s')/\BQ B [Fh] w u:=by
 have F:BQ B [Fh] w u:=h.map.wrote f h.lo.2.1 (by decide);have c:=h.map.2;refine⟨⟨h.lo,h.cell.kept F (by decide),h.tab.kept F (by decide) (by decide),h.free.kept F (by decide),h.sts.kept F (by decide),M,λd v o=>?_,λd p=>?_,λd v q r t x=>?_,λe d v o=>?_⟩,F⟩
 ·have l:=(W6 c).1 o;rw[if_neg l.1];have:=h.rows d v l.2;exact⟨this.1.kept F (by decide),this.2⟩
 ·show(if d=s then[] else ch d)=[];split
  ·rfl
  ·rename_i e;refine h.empt d λy=>p ?_;have z:=Qq.1 y;obtain⟨⟨k,v⟩,A,rfl⟩:=z;exact Qq.2 ⟨_,(W6 c).2 ⟨e,A⟩,rfl⟩
 ·exact h.apart d v q r ((W6 c).1 t).2 ((W6 c).1 x).2
 ·exact h.apart2 e d v ((W6 c).1 o).2
end
theorem yK{b f size:Nat}{L:List AN}{s:Int}(S:Ci R B w b f size L):
  Sp PP 178 #[.pointer (some ⟨b,0,none⟩),.int .i64 s] w λv w'=>v=.int .i64 ((N1 L s).length:Nat)/\Ci (gR R w w') B w' b f size (I9 L s)/\U2 f B w w'/\Fr R w w':=by
 obtain⟨bt,ta,tc,ts,fa,fc,fr,sc,st,bm,m,c,H,T,M,C,Z⟩:=S;have t:=T.of M C s;have h1:=T.len M;have h2:=T.cnt;have h3:=T.ok.2.1;have q:=t.length_eq;rw[Qr]at q;have a9:(N1 L s).length<=L.length:=Qv _ _;rw[<-q];have a0:=(C s).1;refine eN ?_;refine Dy (rX H.cell rfl (Hk H.map s rfl ?_));have y:=H.look s;obtain⟨E,_⟩:=y;have l:∃cv,cv=(Au m s).getD (.slice none 0 0):=⟨_,rfl⟩;obtain⟨cv,F⟩:=l;rw[<-F]at E ⊢;have l:=E.shape;obtain⟨ca,cc,rfl⟩:=l;refine cN 20 [7,8,9] 20 (c s).length (λk u=>∃tk V W,Ep B u b f size bt ta tc tk V W (fr++(c s).take k) sc st bm m c/\GU size tk (fr++(c s).take k) st/\U2 f B w u/\Fr (gP R w) w u/\PI (gP R w) b f size bt ta tc V W (fr++(c s).take k) bm m) ⟨ts,fa,fc,by simpa using H,by simpa using T,Cm.refl _ _ _ _,Fr.refl _ _,by simpa using Z.up λ_ h=>.inl h⟩ ?_;rintro k g u hk ⟨tk,V,W,o,X,Fu,Gu,d⟩;have y:=o.look s;obtain⟨G,_⟩:=y;rw[<-F]at G;refine ite (λAY=>?_) (λb0=>?_)
 ·have z:k<(c s).length:=by omega
  have I:=(C s).2 (c s)[k];have l:=I.1 (Qa z);obtain⟨p,hp,a1,x,J,b1⟩:=l
  have K:(p:Int)∉fr++(c s).take k:=by
   rw[Qf,not_or];refine⟨a1,λh=>?_⟩;have l:=QI.1 h;obtain⟨j,hj,N⟩:=l;rw[Qm]at hj;rw[VI,<-hp]at N;have:=(VQ a0).1 N;omega
  have b2:(fr++(c s).take k).length<=1000:=by rw[Qb,Qm];omega
  refine Bv G.sl (x:=(c s)[k]) (by simp) λb4 o4 A4=>AF (A4.cell0 rfl) ?_;rw[hp];refine dD (λi=>i≠b/\i≠f) (Hn 13 0) λO e1=>tX o.cell rfl (λh=>h.1 rfl) (tX o.cell rfl (λh=>h.1 rfl) ?_);have r:=o.up (w':=O);refine ET rfl r.sts (x:=x) J λg1 a3 _ A1=>?_;have a4:g1=f:=(QL a3).symm;refine Ch (cs:=enc x.key) (A1.sub 0 3) rfl (λh=>h.2 a4) (AA (zPR (k:=x.key) r.tab) ?_);rintro v u2 ⟨rfl,T2,Q⟩;have Y:=r.tab.wrote Q
  have a6:¬Ty B bO O f:=λh=>by
   have hO:=r.sts;have:=hO.blk (by intro h;rw[h]at J;simp at J);obtain⟨g2,b3,e2,_,_,a7,_⟩:=this;cases e2;exact absurd (h.cells a7) (by decide)
  refine⟨Fr.mono Y λi _ hi=>⟨by rintro rfl;exact absurd (hi.cells r.cell.h) (by decide),by rintro rfl;exact a6 hi⟩,?_⟩;have H2:=r.tabd T2 Y;have F2:U2 f B w u2:=(Fu.trans (Cm.ext e1.e)).trans (Y.x (Qe _) (by decide));refine Cq (ds:=[.int .i64 (size:Nat),.slice V (fr++(c s).take k).length W]) (B:=H2.cell) rfl rfl (AA (zK3 (sz:=(size:Int)) (m:=(p:Int)) H2.free.sl (by omega)) ?_);have b5:p<size:=by rw[<-T.stl];exact(Qy.1 J).1
  have a8:FL ((size:Int),fr++(c s).take k) (p:Int)=(((size:Int),fr++(c s).take k++[(p:Int)]),0):=by
   unfold FL;rw[if_pos X.ok];dsimp only;rw[if_neg (by omega),if_neg K]
  rw[a8];rintro v u3 ⟨⟨pv,rfl,a5,c5,rfl,O5⟩,e5⟩;refine Ap λb6 u6 n6 z6=>rS z6 [.int .i64 (size:Nat),.slice a5 (fr++(c s).take k++[(p:Int)]).length c5] (CO _ _ _ _) λu7 B7 f7 _=>?_;have s7:AC u3 u7:=n6.st f7;clear z6 f7;refine iT rfl (Cq (ds:=[.int .i64 (size:Nat),.slice a5 (fr++(c s).take k++[(p:Int)]).length c5]) (B:=B7) rfl rfl ?_);have H7:=H2.up (w':=u7);refine rS H7.cell [.int .i64 (size:Nat),.slice a5 (fr++(c s).take k++[(p:Int)]).length c5] (CO _ _ _ _) λu8 C8 f8 _=>?_;have P8:=H7.pooled (O5.up (w':=u7)) H2.rowlt C8 f8;obtain⟨H8,F8⟩:=P8;have Td:=X.drop K J;have A:fr++(c s).take (k+1)=fr++(c s).take k++[(p:Int)]:=by rw[Cs z,hp,Qp]
  have b7:=Gu.size;have b8:=lz u O;have b9:=Y.size;refine rA ⟨rfl,z,_,a5,c5,by rw[A];exact H8,by rw[A];exact Td,(F2.trans (Cm.ext Le.e)).trans (F8.x (Qe _) (by decide)),((((Gu.trans (Fr.fr e1.e)).trans (d.tab Q)).trans (fE u2 u7)).trans (f8.mono λi _ hi=>hi ▸ d.b)),⟨d.b,d.bt,d.ta,d.gs,d.bm,λc0 g U=>.inr ?_,d.rows⟩⟩;have l:=O5.lt (by simp);obtain⟨g5,h1,h2,_⟩:=l;rw[A]at U;rw[h1]at U;cases U;omega
 ·have l:k=(c s).length:=by omega
  obtain rfl:=l;rw[Qg]at o X;refine rX o.cell rfl (jP o.map s rfl λO M1 f1 _=>?_);have D1:=o.del s M1 f1;obtain⟨r,F1⟩:=D1;have MD:=M.drop C s;rw[Qg]at d;exact⟨rfl,(show Ci (gP R w) B O b f size (I9 L s) from⟨bt,ta,tc,_,_,_,_,sc,st,bm,_,_,r,X,MD.1,MD.2,d.b,d.bt,d.ta,d.gs,d.bm,d.fr,λs2 v hv g U=>d.rows s2 v ((W6 o.map.2).1 hv).2 g U⟩).end,Fu.trans (F1.x (Qe _) (by decide)),Fr.gP (Gu.trans (f1.mono λi _ hi=>hi ▸ d.bm))⟩
end Go.W
namespace Go.Proofs
open Go.Shelf Tryz
def Tryz.sortM_ren:Go.Shelf.Ren:=⟨fun|6=>368|15=>201|14=>392|28=>284|29=>265|20=>408|21=>409|22=>410|23=>411|24=>412|25=>413|26=>414|27=>415|46=>422|47=>352|48=>353|49=>423|50=>424|57=>434|n=>n,fun|22=>255|24=>329|25=>453|3=>3|39=>186|0=>0|53=>277|55=>281|4=>4|46=>375|45=>374|50=>70|5=>5|9=>9|66=>436|70=>440|76=>484|77=>485|n=>n,fun|n=>n⟩
theorem Tryz.sortM:Go.Proofs.SlLaysF0.n6 prog Tryz.sortM_ren:={
 mixed:=by kernel_rfl
 f6:=⟨f368.name,by decide,W.ff func368⟩
 f14:=⟨f392.name,by decide,W.ff func392⟩
 f15:=W.ff func201
 f20:=⟨f408.name,by decide,W.ff func408⟩
 f21:=⟨f409.name,by decide,W.ff func409⟩
 f22:=⟨f410.name,by decide,W.ff func410⟩
 f23:=⟨f411.name,by decide,W.ff func411⟩
 f24:=⟨f412.name,by decide,W.ff func412⟩
 f25:=⟨f413.name,by decide,W.ff func413⟩
 f26:=⟨f414.name,by decide,W.ff func414⟩
 f27:=⟨f415.name,by decide,W.ff func415⟩
 f28:=W.ff func284
 f29:=W.ff func265
 f46:=⟨f422.name,by decide,W.ff func422⟩
 f47:=W.ff func352
 f48:=W.ff func353
 f49:=⟨f423.name,by decide,W.ff func423⟩
 f50:=⟨f424.name,by decide,W.ff func424⟩
 f57:=⟨f434.name,by decide,W.ff func434⟩
 t0:=underlying0
 a0:=isAgg0
 z0:=sizeOf0
 v0:=zeroValue0
 t3:=underlying3
 a3:=isAgg3
 z3:=sizeOf3
 v3:=zeroValue3
 t4:=underlying4
 a4:=isAgg4
 z4:=sizeOf4
 v4:=zeroValue4
 t5:=underlying5
 a5:=isAgg5
 z5:=sizeOf5
 v5:=zeroValue5
 t9:=underlying9
 a9:=isAgg9
 z9:=sizeOf9
 v9:=zeroValue9
 t22:=underlying255
 a22:=isAgg255
 z22:=sizeOf255
 v22:=zeroValue255
 t25:=underlying453
 a25:=isAgg453
 z25:=sizeOf453
 v25:=zeroValue453
 t39:=underlying186
 a39:=isAgg186
 z39:=sizeOf186
 v39:=zeroValue186
 t45:=underlying374
 a45:=isAgg374
 z45:=sizeOf374
 v45:=zeroValue374
 t46:=underlying375
 a46:=isAgg375
 z46:=sizeOf375
 v46:=zeroValue375
 t50:=underlying70
 a50:=isAgg70
 z50:=sizeOf70
 v50:=zeroValue70
 t53:=underlying277
 a53:=isAgg277
 z53:=sizeOf277
 v53:=zeroValue277
 t55:=underlying281
 a55:=isAgg281
 z55:=sizeOf281
 v55:=zeroValue281
 t66:=underlying436
 a66:=isAgg436
 z66:=sizeOf436
 v66:=zeroValue436
 t70:=underlying440
 a70:=isAgg440
 z70:=sizeOf440
 v70:=zeroValue440
 t76:=underlying484
 a76:=isAgg484
 z76:=sizeOf484
 v76:=zeroValue484
 t77:=underlying485
 a77:=isAgg485
 z77:=sizeOf485
 v77:=zeroValue485 }
end Go.Proofs
namespace Go.W
open Go Go.Proofs Go.Shelf
open AK (enc)
variable {B i j k m n n2:Nat} {D R:Nat -> Prop} {P:Program} {T:Ce} {a a' a2:OA} {g:An} {ps:List Int} {u u' w w':World}
theorem lU{c:Type}[Inhabited c](f:c->Value)(o:Nat)(d:Array c)(b:Array Value):Go.Sort.putCells f o d b=Go.Sort.putCells id o (d.map f) b:=by
 unfold Go.Sort.putCells;apply Array.ext
 ·simp
 ·intro i e l;simp only[Array.getElem_mapIdx,Array.size_map,id];split
  ·rename_i h;rw[getElem!_pos d (i - o) (by omega),getElem!_pos (d.map f) (i - o) (by simp;omega)];simp
  ·rfl
theorem qY(l:List Int):Ac l=l.map (Value.int .i64):=by
 induction l with
 |nil=>rfl
 |cons x r b=>rw[DS,b];rfl
theorem UC(F b:Array Value)(h:F.size<=b.size):(Go.Sort.putCells id 0 F b).toList.take F.size=F.toList:=by
 apply Vl;intro j;rw[Vh];split
 ·rename_i c;rw[Jj,Jj];unfold Go.Sort.putCells;rw[Array.getElem?_mapIdx,QT (by omega),JD,if_pos ⟨by omega,by omega⟩,QT c,JF,getElem!_pos _ j c];rfl
 ·rename_i c;rw[Jg (by simp;omega)]
abbrev Im (l:List Int):List Int:=l.mergeSort λx y=>decide (x<=y)
section
variable {P:Program} {w:World}
theorem zPI{ρ:Ren}(L:SlLaysN.n53 P ρ){f:FuncId}(J:ρ.f 53=f){e:TypeId}{v:Value}{l:List Int}(h:AD B e w v l)(p:l.length<4611686018427387904):
  Sp P f #[v] w λr w'=>r=.tuple #[]/\AD B e w' v (Im l)/\Fr (AV B v) w w':=by
 subst J
 have can:CH P (ρ.f 53):=by
  obtain⟨V,K,M⟩:=L.f53;exact⟨_,M,rfl,K⟩
 obtain⟨a,c,rfl⟩:=h.shape;refine⟨can,?_⟩;by_cases C:l=[]
 ·subst C;refine(AnyG.slices_Sort_int_none (P:=P) (ρ:=ρ) L a c w).mono ?_;rintro en w' ⟨rfl,rfl⟩;have N:Im ([]:List Int)=[]:=by simp[Im]
  rw[N];exact⟨rfl,h,Fr.refl _ _⟩
 ·obtain⟨g,q,rfl,W,hb,t,O,E,F,b⟩:=h.blk C;have x:AK.sz Int=1:=rfl;rw[x,Xq]at b;rw[qY]at b
  have Q:Go.Sort.Holds (Value.int .i64) w g 0 l.toArray:=by
   intro j I;have y:j<l.length:=by simpa using I
   constructor
   ·rw[cell_of_row w g (0+j) q e (0,0) t,JO];have:(l.map (Value.int .i64))[j]? = q[j]?:=by rw[<-b,Vh,if_pos y,Jj]
    rw[<-this,getElem!_pos l.toArray j I];simp[y]
   ·simp[World.frozen?,t]
  have z:=AnyG.slices_Sort_int L g 0 c l w Q (Ad t) p;refine z.mono ?_;rintro en w' ⟨rfl,m,os,rfl⟩;have s:(Im l).length=l.length:=List.length_mergeSort _
  have d:∀i,i<w.heap.size->(Go.Sort.grow (Go.Sort.putRow (Value.int .i64) (Go.Sort.ahead w m) g 0 (Im l).toArray) os).heap[i]? = (w.heap.modify g (Go.Sort.onCells (Go.Sort.putCells (Value.int .i64) 0 (Im l).toArray)))[i]?:=by
   intro i hi;rw[XN _ _ (by simp_all)];rfl
  have G:=Ad t;refine⟨rfl,.inr ⟨KZ _,.inr ⟨g,c,Go.Sort.putCells (Value.int .i64) 0 (Im l).toArray q,by rw[s],hb,?_,by rw[s];omega,E,?_,?_⟩⟩,⟨rfl,rfl,rfl,?_,λi hi H=>?_,λi o A S=>?_⟩⟩
  ·rw[d g G,Jv,if_pos rfl,t];rfl
  ·simpa[Go.Sort.putCells]using F
  ·rw[lU,qY,x,Xq];have U:((Im l).toArray.map (Value.int .i64)).size=(Im l).length:=by simp
   have:=UC ((Im l).toArray.map (Value.int .i64)) q (by simp_all);rw[U]at this;rw[this];simp
  ·simp[Go.Sort.grow,Go.Sort.putRow,Go.Sort.mapBlock,Go.Sort.ahead]
  ·rw[d i hi,Jv,if_neg (λh=>H (by subst h;exact⟨hb,rfl,h.not0 C⟩))]
  ·rw[d i (Ad A),Jv];by_cases hi:g=i
   ·subst hi;rw[t]at A;cases A;cases S
   ·rw[if_neg hi];exact A
theorem vW(l:List Int):(Im l).Perm l:=List.mergeSort_perm _ _
theorem zOu(l:List Int):(Im l).Pairwise (·<=·):=by
 have:=List.pairwise_mergeSort (le:=λx y:Int=>decide (x<=y)) (λa b c d e=>by simp at *;omega) (λa b=>by simp;omega) l;exact this.imp λh=>by simpa using h
end
section
variable {α:Type} [AK α] [Inhabited α] {w:World}
omit [Inhabited α] in
theorem r6{val:α->Value}(b:∀x:α,enc x=[val x])(l:List α):Ac l=l.map val:=by induction l<;>simp_all[Ac]
theorem Ps{val:α->Value}(b:∀x:α,enc x=[val x]):AK.sz α=1:=by
 rw[<-AK.len (default:α),b];rfl
theorem rW{val:α->Value}(d:∀x:α,enc x=[val x]){e:TypeId}{l:List α}{g:Nat}{b:Array Value}(f:w.heap[g]? = some (.cells b e (0,0)))(h:b.toList.take (l.length*AK.sz α)=Ac l):Go.Sort.Holds val w g 0 l.toArray:=by
 rw[Ps d,Xq,r6 d]at h;intro j o;have c:j<l.length:=by simpa using o
 constructor
 ·rw[cell_of_row w g (0+j) b e (0,0) f,JO];have:(l.map val)[j]? = b[j]?:=by rw[<-h,Vh,if_pos c,Jj]
  rw[<-this,getElem!_pos l.toArray j o];simp[c]
 ·simp[World.frozen?,f]
theorem nS{val:α->Value}(H:∀x:α,enc x=[val x]){e:TypeId}{g c:Nat}{l l':List α}{os:Array Obj}(h:AD B e w (.slice (some ⟨g,0,none⟩) n c) l)(I:l≠[])(p:l'.length=l.length){s:Type}[Inhabited s](b:s->Value)(d:Array s)(hd:d.map b=l'.toArray.map val):
  AD B e (Go.Sort.grow (Go.Sort.putRow b (Go.Sort.ahead w m) g 0 d) os) (.slice (some ⟨g,0,none⟩) n c) l'/\Fr (AV B (.slice (some ⟨g,0,none⟩) n c)) w (Go.Sort.grow (Go.Sort.putRow b (Go.Sort.ahead w m) g 0 d) os):=by
 have h0:=h;have t:=h.blk I;obtain⟨O,q,v,J,hb,y,K,z,A,C⟩:=t;cases v;have E:=Ps H
 have f:∀i,i<w.heap.size->(Go.Sort.grow (Go.Sort.putRow b (Go.Sort.ahead w m) g 0 d) os).heap[i]? = (w.heap.modify g (Go.Sort.onCells (Go.Sort.putCells b 0 d)))[i]?:=by
  intro i hi;rw[XN _ _ (by simp_all)];rfl
 have F:=Ad y;refine⟨.inr ⟨KZ _,.inr ⟨g,c,Go.Sort.putCells b 0 d q,by rw[p,<-J],hb,?_,by rw[p];omega,z,?_,?_⟩⟩,⟨rfl,rfl,rfl,?_,λi hi G=>?_,λi o r L=>?_⟩⟩
 ·rw[f g F,Jv,if_pos rfl,y];rfl
 ·simpa[Go.Sort.putCells]using A
 ·rw[lU,hd,r6 H,E,Xq];have M:(l'.toArray.map val).size=l'.length:=by simp
  have:=UC (l'.toArray.map val) q (by simp_all);rw[M]at this;rw[this];simp
 ·simp[Go.Sort.grow,Go.Sort.putRow,Go.Sort.mapBlock,Go.Sort.ahead]
 ·rw[f i hi,Jv,if_neg (λN=>G (by subst N;exact⟨hb,rfl,h0.not0 I⟩))]
 ·rw[f i (Ad r),Jv];by_cases hi:g=i
  ·subst hi;rw[y]at r;cases r;cases L
  ·rw[if_neg hi];exact r
variable {P:Program}
theorem zN{ρ o:Ren}(L:SlLaysF.n6 P ρ)(V:SlLaysF0.n6 P o){val:α->Value}(G:∀x:α,enc x=[val x])(s:α->α->Int)(X:Go.Sort.SWO (ltOf s)){f g:FuncId}(Y:ρ.f 6=f)(H:o.f 6=f)
  (O:∀(x y:α) (W:World),Sp P g #[val x,val y] W λv w'=>v=.int .i64 (s x y)/\Gw W w'){e:TypeId}{v:Value}{l:List α}(h:AD B e w v l)(E:l.length<4611686018427387904):
  Sp P f #[v,.func (.func g) #[] #[]] w λr w'=>r=.tuple #[]/\∃l',l'.Perm l/\l'.Pairwise (λa b=>s b a<0->False)/\AD B e w' v l'/\Fr (AV B v) w w':=by
 subst Y
 have can:CH P (ρ.f 6):=by
  obtain⟨nm,I,Z⟩:=L.f6;exact⟨_,Z,rfl,I⟩
 obtain⟨a,c,rfl⟩:=h.shape;refine⟨can,?_⟩;by_cases J:l=[]
 ·subst J;have:=AnyF.slices_SortFunc_none (P:=P) (ρ:=o) V a c (.func (.func g) #[] #[]) w;rw[H]at this;refine this.mono ?_;rintro en w' ⟨rfl,rfl⟩;exact⟨rfl,[],.refl _,.nil,h,Fr.refl _ _⟩
 ·obtain⟨g0,a0,rfl,hn,hb,Q,a1,a3,a4,p⟩:=h.blk J;have hd:l.toArray.size=l.length:=by simp
  have t:CH P g:=(O default default w).can;have I:OneCell val:=λx=>AK.one x _ (by rw[G];simp)
  have z:CmpLays1 P g #[] val s g0 0 l.toArray.size w:=by
   intro m os dk _ x y;refine(O x y _).calls.mono ?_;intro en w' S
   cases en with
   |returned v=>obtain⟨rfl,q,K,F⟩:=S;exact⟨rfl,q,K,F⟩
   |_=>exact S.elim
  have d:=Any.slices_SortFunc L val I s X g #[] g0 0 c l.toArray w (λargs w=>UI t w) z (rW G Q (hn ▸ p)) (Ad Q) (by omega);rw[hd]at d;refine d.mono ?_;rintro en w' ⟨rfl,d',m,os,⟨M,_,A⟩,hs,rfl⟩;have C:d'.size=l.length:=by rw[M,hd]
  have e1:d'.extract 0 l.length=d':=by simp_all
  have e2:l.toArray.extract 0 l.length=l.toArray:=by simp
  rw[e1,e2]at A;have F:=nS G (l':=d'.toList) (m:=m) (os:=os) h J (by simpa using C) val d' (by simp);refine⟨rfl,d'.toList,by simpa using A,?_,F.1,F.2⟩;rw[QX];intro i j hi U N AY;have:=hs i j (XE _) N (by simpa[C]using U);simp only[ltOf]at this;rw[getElem!_pos d' j (by simpa using U),getElem!_pos d' i (by simpa using hi)]at this;simp only[Array.getElem_toList]at AY;simp[AY]at this
end
instance:Inhabited ByteArray:=⟨⟨#[]⟩⟩
theorem zPJ{ρ:Ren}(L:SlLaysN.n54 P ρ){f:FuncId}(I:ρ.f 54=f){e:TypeId}{v:Value}{l:List ByteArray}(h:AD B e w v l)(t:l.length<4611686018427387904):
  Sp P f #[v] w λr w'=>r=.tuple #[]/\∃l',l'.Perm l/\l'.Pairwise (λa b=>a.data.toList<=b.data.toList)/\AD B e w' v l'/\Fr (AV B v) w w':=by
 subst I
 have can:CH P (ρ.f 54):=by
  obtain⟨W,p,z⟩:=L.f54;exact⟨_,z,rfl,p⟩
 obtain⟨a,c,rfl⟩:=h.shape;refine⟨can,?_⟩;by_cases A:l=[]
 ·subst A;refine(AnyG.slices_Sort_string_none (P:=P) (ρ:=ρ) L a c w).mono ?_;rintro en w' ⟨rfl,rfl⟩;exact⟨rfl,[],.refl _,.nil,h,Fr.refl _ _⟩
 ·obtain⟨g,J,rfl,K,hb,G,N,O,Q,o⟩:=h.blk A;have C:=rW (val:=Value.string) (λ_=>rfl) G (K ▸ o)
  have S:Go.Sort.Holds encStr w g 0 (l.map λs=>s.data.toList).toArray:=by
   intro j U;have q:j<l.length:=by simpa using U
   have p:=C j (by simpa using q);rw[getElem!_pos _ j (by simpa using q)]at p ⊢;simpa[encStr]using p
  have d:=AnyG.slices_Sort_string L g 0 c (l.map λs=>s.data.toList) w S (Ad G) (by simp_all);rw[Qr]at d;refine d.mono ?_;rintro en w' ⟨rfl,m,os,rfl⟩;obtain⟨M,E⟩:∃M,M=(l.map λs=>s.data.toList).mergeSort λx y=>decide (x<=y):=⟨_,rfl⟩;rw[<-E];have F:M.length=l.length:=by simp_all
  have H:=nS (val:=Value.string) (λ_=>rfl) (l':=M.map λs=>(⟨s.toArray⟩:ByteArray)) (m:=m) (os:=os) h A (by simp[F]) encStr M.toArray (by simp[encStr]);refine⟨rfl,M.map λs=>(⟨s.toArray⟩:ByteArray),?_,?_,H.1,H.2⟩
  ·have V:M.Perm (l.map λs=>s.data.toList):=by rw[E];exact List.mergeSort_perm _ _
   have:=V.map λs=>(⟨s.toArray⟩:ByteArray);rw[VM]at this;have e:((λs:U8=>(⟨s.toArray⟩:ByteArray)) ∘ λs:ByteArray=>s.data.toList)=id:=by funext s;simp
   rw[e,List.map_id]at this;exact this
  ·rw[QY];have:=List.pairwise_mergeSort (le:=λx y:U8=>decide (x<=y)) (λa b c p z=>by simp at *;exact List.le_trans p z) (λa b=>by simp;exact List.le_total a b) (l.map λs=>s.data.toList);rw[<-E]at this;exact this.imp λh=>by simpa using h
def GP (T e:TypeId) (B b:Nat) (l:U8) (w:World):Prop:=Lib.IsBuilderF T e B b (Lib.byteCells l) w
theorem dI{T e:TypeId}{b:Nat}(c:B<=b)(k:Bk w b [.pointer none,.slice none 0 0] T):GP T e B b [] w:=
 .inl ⟨c,.slice none 0 0,k.h,World.ownsRowF_nil w B e 1,by simp[Value.ownBlock]⟩
theorem Re{T e:TypeId}{b:Nat}{p:Value}{bs:List Value}(h:Lib.BuilderAtF T e B b p bs w)(f:Fr D w w')(hd:∀i c t z,w.heap[i]? = some (.cells c t z)->(t=T/\i=b\/t=e/\B<=i)->¬D i):Lib.BuilderAtF T e B b p bs w':=by
 obtain⟨s,v,hb,d,o⟩:=h;refine⟨s,v,f.blk hb (hd _ _ _ _ hb (.inl ⟨rfl,rfl⟩)),⟨d.1,?_⟩,o⟩;rcases d.2 with x|⟨g,cap,q,fz,rfl,r,l,rest⟩
 ·exact .inl x
 ·exact .inr ⟨g,cap,q,fz,rfl,r,f.blk l (hd _ _ _ _ l (.inr ⟨rfl,r⟩)),rest⟩
theorem GP.fr{T e:TypeId}{b:Nat}{l:U8}(h:GP T e B b l w)(f:Fr D w w')(hd:∀i c t z,w.heap[i]? = some (.cells c t z)->(t=T/\i=b\/t=e/\B<=i)->¬D i):GP T e B b l w':=by
 rcases h with h|h
 ·exact .inl (Re h f hd)
 ·exact .inr (Re h f hd)
theorem GP.up{T e:TypeId}{b:Nat}{l:U8}[L:Le w w'](h:GP T e B b l w):GP T e B b l w':=h.fr L.e λ_ _ _ _ _ _ h=>h
theorem GP.lt{T e:TypeId}{b:Nat}{l:U8}(h:GP T e B b l w):b<w.heap.size:=by
 rcases h with⟨_,v,hb,_⟩|⟨_,v,hb,_⟩<;>exact Ad hb
theorem GP.obj{T e:TypeId}{b:Nat}{l:U8}(h:GP T e B b l w):∃c z,w.heap[b]? = some (.cells c T z):=by
 rcases h with⟨_,v,hb,_⟩|⟨_,v,hb,_⟩<;>exact⟨_,_,hb⟩
theorem qL{T e:TypeId}{b:Nat}{l:U8}(h:GP T e B b l w)(p:Go.RowKit.Below B w w')(q:Lib.OthersKept e (some b) w w'):Cm (λi=>i=b) B [e] w w':=by
 refine⟨p.os,p.tape,p.output,p.size,λi hi hd=>?_,λi o d r=>?_⟩
 ·obtain⟨o,d⟩:∃o,w.heap[i]? = some o:=⟨_,QT hi⟩;by_cases s:i<B
  ·exact p.block i s
  ·rw[d];refine q i o d (λf=>hd (.inl (QL f))) λc fz f=>hd (.inr ?_);subst f;exact Ty.mk (by omega) d (by simp)
 ·obtain⟨c,z,hb⟩:=h.obj;refine q i o d (λf=>?_) λc fz f=>?_
  ·have:i=b:=QL f;subst this;rw[hb]at d;cases d;cases r
  ·subst f;cases r
section
variable {P:Program}
theorem zNH{ρ:Ren}(L:Lays.n166 P ρ)(X:Builder.Extra P ρ){f:FuncId}{T e:TypeId}(d:ρ.f 166=f)(o:ρ.t 72=T)(p:ρ.t 5=e)(q:CH P f){b:Nat}{l m:U8}(h:GP T e B b l w)(r:B<=w.heap.size)(c:l.length+m.length<=140737488355328):
  Sp P f #[.pointer (some ⟨b,0,none⟩),.string ⟨m.toArray⟩] w λv w'=>v=.tuple #[.int .i64 m.length,.nilIface]/\GP T e B b (l++m) w'/\Cm (λi=>i=b) B [e] w w':=by
 subst d;subst o;subst p;refine⟨q,(Any.Builder_WriteString_k L X B b (Lib.byteCells l) ⟨m.toArray⟩ w h (by rw[Lib.byteCells_length];exact c) r).mono ?_⟩;rintro en w' ⟨rfl,s,x,y⟩;refine⟨rfl,.inr ?_,qL h x y⟩;rw[Lib.byteCells_append];exact s
theorem yD{ρ:Ren}(L:Lays.n169 P ρ)(X:Builder.Extra P ρ){f:FuncId}{T e:TypeId}(c:ρ.f 169=f)(d:ρ.t 72=T)(o:ρ.t 5=e)(p:CH P f){b:Nat}{l:U8}(h:GP T e B b l w)(q:B<=w.heap.size):
  Sp P f #[.pointer (some ⟨b,0,none⟩)] w λv w'=>v=.string ⟨l.toArray⟩/\GP T e B b l w'/\Cm (λi=>i=b) B [e] w w':=by
 subst c;subst d;subst o;refine⟨p,(Any.Builder_String_any_k L X B b l w h q).mono ?_⟩;rintro en w' ⟨rfl,r,s,x⟩;exact⟨rfl,r,qL h s x⟩
theorem AB.can{f:FuncId}{fn:Func}(h:AB P f fn n):CH P f:=⟨fn,h.hf,h.hb,h.hm⟩
end
open Go
theorem Fr.blk'(h:Fr D w w'){b:Nat}{o:Obj}(hb:w.heap[b]? = some o)(hd:¬D b):w'.heap[b]? = some o:=by rw[h.block b (Ad hb) hd];exact hb
theorem zP3{b o:Nat}{f:Option Nat}{v:Value}(h:w.cell? ⟨b,o,f⟩=some v):b<w.heap.size:=by
 rcases QH b w.heap.size with c|c
 ·exact c
 ·unfold World.cell? at h;rw[Jn c]at h;cases h
theorem Qt.trans{a b c:World}(h:Qt B a b)(k:Qt B b c):Qt B a c:=
 ⟨k.os.trans h.os,k.tape.trans h.tape,k.output.trans h.output,Qw h.size k.size,λi o d hb=>k.block i o (h.block i o d hb) hb⟩
section
variable {P:Program}
structure Uh (P:Program) (g:FuncId) (first cap:List Value) (Qi Rb:World->World->Prop) (St:World->Prop) (Nx:List (List Value)->List Value->World->Prop) (En:List (List Value)->Prop):Prop where
 out:∀(l:Nat) (J:List (List Value)->World->Prop) (Jx:World->Prop) (w:World),(∀i u u',J i u->Qi u u'->J i u')->(∀u u',Jx u->Qi u u'->Jx u') ->
  (∀i u x,Nx i x u->J i u->NC P l x u λb u'=>((b=true/\J (i++[x]) u')\/(b=false/\Jx u'))/\Rb u u')->J [] w->St w ->
  Sp P g (first++[yl l]++cap).toArray w λ_ w'=>(∃i,En i/\J i w')\/Jx w'
theorem Nm(hT:T.ok P=true)(hr:T.round=false){g:Operand}{ps:Array Tmp}{assign body:Code}{Q:KS}{F:Nat->Value}{gf:FuncId}{first cap:List Value}{Qi Rb Rc:World->World->Prop}{St:World->Prop}{Nx:List (List Value)->List Value->World->Prop}{En:List (List Value)->Prop}
  (hg:ev F g=.func (.func gf) first.toArray cap.toArray)(b5:MW n ps.toList=true)
  (a7:Uh P gf first cap Qi Rb St Nx En)(b6:∀ys x u,Nx ys x u->x.length=ps.toList.length)(a8:∀u u',Qi u u'->∃D,Fr D u u')
  (I:List (List Value)->World->Prop)(L:Code->World->Prop)(hI:∀i u u',I i u->Qt w.heap.size u u'->I i u')(U:∀c u u',L c u->Qt w.heap.size u u'->L c u')
  (b7:∀i u u',w.heap.size<=u.heap.size->I i u->Qi u u'->I i u')(a9:∀c u u',w.heap.size<=u.heap.size->L c u->Qi u u'->L c u')
  (V:∀u c E u3,Qt w.heap.size u c->Rc c E->Qt w.heap.size E u3->Rb u u3)(b8:∀c u,Rc c u->∃D,Fr D c u)(b9:∀w',Bp w w'->St w')(h0:I [] w)
  (M:∀i x u,Nx i x u->(∃o,u.heap[w.heap.size]? = some o)->I i u->S P { T with round:=true } n assign
   { nrm:=λF1 u1=>Bp u u1/\(∀c,Qt w.heap.size u1 c->S P { T with round:=true } n body { nrm:=λ_ E=>I (i++[x]) E/\Rc c E,ext:=λj _ E=>L (.exit j) E/\Rc c E,ret:=λ_ E=>L .ret E/\Rc c E,pan:=λ_ _ _=>False } F1 c),ext:=λ_ _ _=>False,ret:=λ_ _=>False,pan:=λ_ _ _=>False } (Yz F ps.toList x) u)
  (W:∀i D u,En i->I i u->w.heap.size<=D->u.heap[D]? = some (.deferred (some []))->Q.nrm (DP F D) u)
  (X:∀c D u,L c u->w.heap.size<=D->u.heap[D]? = some (.deferred (some []))->match c with | .ret=>Q.ret (DP F D) u | .exit j=>Q.ext j (DP F D) u|_=>False):
  BI P T n (.rangeFunc g ps assign body) Q F w:=by
 rw[SH];intro md b0 a Y;have c0:md=none:=by cases md with|none=>rfl|some _=>rw[hr]at b0;cases b0
 subst c0;refine wpIn_rangeFunc ?_;intro fn _;have c1:(fw none).round=none:=rfl;rw[c1];obtain⟨rec,l⟩:∃rec:LoopState->Option Code->Loop,rec=λst pe=>{ state:=st,pending:=pe,fn,tmps:=a.tmps,params:=ps,assign,body,defers:=w.heap.size }:=⟨_,rfl⟩;obtain⟨y,N⟩:∃y,(w.alloc (.deferred (some []))).alloc (.loop (rec .ready none))=y:=⟨_,rfl⟩;have b1:Bp w y:=by rw[<-N];exact(Bp.alloc w _).t (Bp.alloc _ _)
 have c2:y.heap[w.heap.size+1]? = some (.loop (rec .ready none)):=by
  rw[<-N];have:=Xd (w.alloc (.deferred (some []))) (.loop (rec .ready none));rwa[World.size_alloc]at this
 have c3:y.heap[w.heap.size]? = some (.deferred (some [])):=by
  rw[<-N];exact(VD _ _ _ (by simp)).trans (Xd w _)
 have c4:a.eval g=.func (.func gf) first.toArray cap.toArray:=by rw[Y.eval];exact hg
 have G:=a7.out (w.heap.size+1)
  (λi u=>I i u/\u.heap[w.heap.size+1]? = some (.loop (rec .ready none))/\u.heap[w.heap.size]? = some (.deferred (some [])))
  (λu=>∃c,L c u/\u.heap[w.heap.size+1]? = some (.loop (rec .done (some c)))/\u.heap[w.heap.size]? = some (.deferred (some []))) y
  (λi u u' h q=>by obtain⟨D,e⟩:=a8 u u' q;exact⟨b7 i u u' (by have:=Ad h.2.1;omega) h.1 q,e.nc _ _ h.2.1 rfl,e.nc _ _ h.2.2 rfl⟩)
  (λu u' h q=>by obtain⟨D,e⟩:=a8 u u' q;obtain⟨c,z,p,H⟩:=h;exact⟨c,a9 c u u' (by have:=Ad p;omega) z q,e.nc _ _ p rfl,e.nc _ _ H rfl⟩)
  ?_ ⟨hI [] w y h0 (.of_ext b1),c2,c3⟩ (b9 y b1)
 ·refine⟨w.heap.size+1,[{ target:=.collected w.heap.size,args:=#[] }],y,{ target:=.fn (.func gf) cap.toArray,args:=first.toArray++#[yl (w.heap.size+1)] },y,gf,
   (first++[yl (w.heap.size+1)]++cap).toArray,y,?_,?_,λ_ _=>trivial,?_,λh=>by simp[fw,Fence.wide]at h,?_⟩
  ·rw[<-N,l];exact run_enterLoop_outer _ _ _ _ _
  ·simp only[resolve,c4];simp[Deferred.ofValue,yl,Act.eval]
  ·have:(callFunc gf (first++[yl (w.heap.size+1)]++cap).toArray).run P y=.ok (.enter gf (first++[yl (w.heap.size+1)]++cap).toArray) y:=UI G.can y;simpa[invoke]using this
  ·refine iE none (G.calls.mono ?_);intro e u he
   have r:∀u:World,FI n (DP F w.heap.size) { a with defers:=[{ target:=.collected w.heap.size,args:=#[] }]++a.defers }:=λ_=>by
    refine⟨Y.size,Y.le,?_,λt ht=>?_⟩
    ·show _::a.defers=FH (DP F w.heap.size 4294967296);unfold DP CQ;rw[show Nat.beq 4294967296 4294967296=true from rfl,cond_true,Y.defers];exact(cM _ _ _ rfl).symm
    ·have hb:Nat.beq t 4294967296=false:=by
      cases Z:Nat.beq t 4294967296 with
      |false=>rfl
      |true=>exact absurd (QD Z) ht
     show a.tmps.getD t undef=DP F w.heap.size t;unfold DP CQ;rw[hb];exact Y.get t ht
   have a0:agree (wr (.rangeFunc g ps assign body)) F (DP F w.heap.size):=by
    intro t ht;unfold DP CQ;have:Nat.beq t 4294967296=false:=ht;rw[this];rfl
   cases e with
   |returned v =>
    rcases he with⟨ys,c5,z,p,H⟩|⟨c,z,p,H⟩
    ·refine⟨none,u.putObj (w.heap.size+1) (.loop { rec .ready none with state:=.exhausted }),?_,?_⟩
     ·have:=run_endLoop (P:=P) p (by rw[l];simp);rw[l]at this ⊢;exact this
     ·exact⟨_,r u,a0,W _ _ _ c5 (hI _ _ _ z (Qt.put p rfl (by omega))) (Qe _) ((Jk (by omega)).trans H)⟩
    ·refine⟨some c,u.putObj (w.heap.size+1) (.loop { rec .done (some c) with state:=.exhausted }),?_,?_⟩
     ·have:=run_endLoop (P:=P) p (by rw[l];simp);rw[l]at this ⊢;exact this
     ·have hs:=X c w.heap.size _ (U _ _ _ z (Qt.put (o':=.loop { rec .done (some c) with state:=.exhausted }) p rfl (by omega))) (Qe _) ((Jk (by omega)).trans H);cases c<;>first|exact hs.elim|skip
      ·exact wpIn_exit ⟨_,r u,a0,hs⟩
      ·exact wpIn_ret ⟨_,r u,a0,hs⟩
   |panicked c=>exact he.elim
   |outgrown=>exact he.elim
 ·
  intro i u x hx hh;obtain⟨hi,hl,hk⟩:=hh;have AY:=Ad hl;have b2:=b6 i x u hx;have A:rec .ready none = { state:=.ready,pending:=none,fn,tmps:=a.tmps,params:=ps,assign,body,defers:=w.heap.size }:=by rw[l]
  refine⟨rec .ready none,hl,by rw[A];simpa using b2,?_⟩
  have c6:(((rec .ready none).params.zip x.toArray).foldl (λtmps (t,a)=>tmps.setIfInBounds t a) (rec .ready none).tmps)=(ps.toList.zip x).foldl (λt (s,v)=>t.setIfInBounds s v) a.tmps:=by
   rw[A];show(ps.zip x.toArray).foldl _ a.tmps=_;rw[<-Array.foldl_toList];simp
  have r:=jC Y.le ps.toList x F a Y (pI b5) b2;have hR:=M i x u hx ⟨_,hk⟩ hi;have e1:(rec .ready none).fn=fn:=by rw[A]
  have e2:(rec .ready none).assign=assign:=by rw[A]
  have e3:(rec .ready none).body=body:=by rw[A]
  rw[c6,e1,e2,e3];have b3:({ T with round:=true }:Ce).ok P=true:=hT
  have J:RoundIn (fw none) 0 P (w.heap.size+1) fn ((ps.toList.zip x).foldl (λt (s,v)=>t.setIfInBounds s v) a.tmps) assign body u
    (H3 (λv w'=>∃b,v=.bool b/\(((b=true/\(I (i++[x]) w'/\w'.heap[w.heap.size+1]? = some (.loop (rec .ready none))/\w'.heap[w.heap.size]? = some (.deferred (some [])))) \/
     (b=false/\∃c,L c w'/\w'.heap[w.heap.size+1]? = some (.loop (rec .done (some c)))/\w'.heap[w.heap.size]? = some (.deferred (some []))))/\Rb u w')) (λ_ _=>False)):=by
   refine roundIn_of_wpIn trivial ?_;rw[Te];refine Jb ?_ (Ti b3 assign _ _ _ hR (some (w.heap.size+1)) rfl _ r);intro e a1 u1 Z;cases e<;>simp only[KS.lift,Exit.then]at Z ⊢
   case normal =>
    obtain⟨F1,z,_,hE,hb⟩:=Z;have O:=hE.nc _ _ hl rfl;have c7:=hE.nc _ _ hk rfl;refine⟨_,run_beginRound O (by rw[A]),?_⟩;have b4:=Ad O;have c8:(u1.putObj (w.heap.size+1) (.loop { rec .ready none with state:=.busy })).heap[w.heap.size+1]? = some (.loop { rec .ready none with state:=.busy }):=VX b4;have c9:(u1.putObj (w.heap.size+1) (.loop { rec .ready none with state:=.busy })).heap[w.heap.size]? = some (.deferred (some [])):=(Jk (by omega)).trans c7;have a4:=(Qt.of_ext (B:=w.heap.size) hE).trans (Qt.put (o':=.loop { rec .ready none with state:=.busy }) O rfl (by omega));have a5:=hb _ (Qt.put (o':=.loop { rec .ready none with state:=.busy }) O rfl (by omega));refine Jb ?_ (Ti b3 body _ _ _ a5 (some (w.heap.size+1)) rfl a1 z)
    have fin:∀(d:Option Code) (C:World),Rc (u1.putObj (w.heap.size+1) (.loop { rec .ready none with state:=.busy })) C ->
      (Instr.endRound (w.heap.size+1) d).run P C=.ok (.bool d.isNone) (C.putObj (w.heap.size+1) (.loop (rec (if d.isNone then .ready else .done) d))) /\
      (Qt w.heap.size C (C.putObj (w.heap.size+1) (.loop (rec (if d.isNone then .ready else .done) d)))) /\
      (C.putObj (w.heap.size+1) (.loop (rec (if d.isNone then .ready else .done) d))).heap[w.heap.size+1]? = some (.loop (rec (if d.isNone then .ready else .done) d)) /\
      (C.putObj (w.heap.size+1) (.loop (rec (if d.isNone then .ready else .done) d))).heap[w.heap.size]? = some (.deferred (some [])):=λd C f=>by
     obtain⟨D,f⟩:=b8 _ _ f;have a6:=f.nc _ _ c8 rfl;have:=run_endRound (P:=P) d a6;refine⟨?_,Qt.put a6 rfl (by omega),VX (Ad a6),(Jk (by omega)).trans (f.nc _ _ c9 rfl)⟩;rw[l]at this ⊢;exact this
    intro e a3 C hp;cases e<;>simp only[KS.lift,roundPost]at hp ⊢
    case normal =>
     obtain⟨_,_,_,K,f⟩:=hp;obtain⟨z,p,H,h4⟩:=fin none C f;exact⟨_,_,z,_,rfl,.inl ⟨rfl,hI _ _ _ K p,H,h4⟩,V _ _ _ _ a4 f p⟩
    case exit j =>
     obtain⟨_,_,_,K,f⟩:=hp;obtain⟨z,p,H,h4⟩:=fin (some (.exit j)) C f;exact⟨_,_,z,_,rfl,.inr ⟨rfl,_,U _ _ _ K p,H,h4⟩,V _ _ _ _ a4 f p⟩
    case ret =>
     obtain⟨_,_,_,K,f⟩:=hp;obtain⟨z,p,H,h4⟩:=fin (some .ret) C f;exact⟨_,_,z,_,rfl,.inr ⟨rfl,_,U _ _ _ K p,H,h4⟩,V _ _ _ _ a4 f p⟩
    case panic c=>obtain⟨_,_,_,h⟩:=hp;exact h.elim
   case exit j=>obtain⟨_,_,_,h⟩:=Z;exact h.elim
   case ret=>obtain⟨_,_,_,h⟩:=Z;exact h.elim
   case panic c=>obtain⟨_,_,_,h⟩:=Z;exact h.elim
  exact J
theorem Ys{kd:IntKind}{x y z:Int}{k:KW}(h0:0<=x)(b:0<y)(c:x % y=z)(d:k (.int kd z) w):PC kd x y k w:=Kl h0 b (c ▸ d)
theorem Zw(d:T.ok P=true)(m:Nat)(keep:List Nat)(I:World->Prop)(b:World->Nat){body:Code}{Q:KS}{F:Nat->Value}(c:Kb m keep [] body=true)(h0:I w)
  (e:∀g w,I w->S P T n body { Q with nrm:=λ_ w'=>I w'/\b w'<b w } (IH m keep [] g F) w):BI P T n (.loop body) Q F w:=
 ML d m keep [] (λ_ u=>I u) (λ_ u=>b u) c h0 λvs g u f h=>by
  have:vs=[]:=Qn f;subst this;exact e g u h
end
structure Kp (X:Nat->Prop) (u u':World):Prop where
 k:∀b o,u.heap[b]? = some o->isRec o=false->X b->u'.heap[b]? = some o
theorem Kp.of_ext{X:Nat->Prop}(e:Bp u u'):Kp X u u':=⟨λ_ _ h _ _=>e.blk' h nf⟩
theorem Kp.of_qt{X:Nat->Prop}(q:Qt B u u'):Kp X u u':=⟨λb o h c _=>q.block b o h (.inr c)⟩
theorem Kp.trans{X:Nat->Prop}{a b c:World}(h:Kp X a b)(k:Kp X b c):Kp X a c:=⟨λi o e d hb=>k.k i o (h.k i o e d hb) d hb⟩
theorem Kp.of_fr{X:Nat->Prop}(f:Fr D u u')(hd:∀i,X i->¬D i):Kp X u u':=⟨λb o h _ hb=>f.blk' h (hd b hb)⟩
theorem Bk.kp{X:Nat->Prop}{b:Nat}{cs:List Value}{e:TypeId}(k:Bk u b cs e)(h:Kp X u u')(hb:X b):Bk u' b cs e:=⟨h.k _ _ k.h rfl hb⟩
theorem AQ.kp{α:Type}[AK α]{X:Nat->Prop}{v:Value}{l:List α}(h:AQ u v l)(k:Kp X u u')(hb:l≠[]->∀b,Value.blk v=some b->X b):AQ u' v l:=by
 obtain⟨a,c,s,p,q⟩:=h;refine⟨a,c,s,p,?_⟩;by_cases t:l=[]
 ·exact .inl t
 rcases q with q|⟨b,o,x,y⟩
 ·exact .inl q
 ·refine .inr ⟨b,o,x,λj v z=>?_⟩;have d:=y j v z;have r:=hb t b (by rw[s,x];rfl);have AY:b<u.heap.size:=zP3 d;obtain⟨f,e⟩:∃f,u.heap[b]? = some f:=⟨_,QT AY⟩
  have A:isRec f=false:=by
   unfold World.cell? at d;rw[e]at d;cases f<;>first|rfl|(simp at d;done)
  have C:=k.k b f e A r;unfold World.cell? at d ⊢;rw[e]at d;rw[C];exact d
def RR (b:Nat) (u:World):Nat:=match u.cell? ⟨b,0,none⟩ with|some (.int _ x)=>x.toNat|_=>0
theorem oS{b:Nat}{kd:IntKind}{x:Int}{cs:List Value}{e:TypeId}(B:Bk u b (.int kd x::cs) e):RR b u=x.toNat:=by
 have:u.cell? ⟨b,0,none⟩=some (.int kd x):=B.at.cell0 rfl;unfold RR;rw[this]
section
variable {P:Program} {kt:TypeId} {κ:Type} [DecidableEq κ] [M:Em P kt κ] {k:KW} {pn:PW} {w:World}
theorem Oe{o:Oper}{F:Nat->Value}{s:Sem Value}(e:execOp (ev F) o=(do let v <-s;pure (Next.value v)))(h:AI P s k pn w):DT P (execOp (ev F) o) k pn w:=by
 rw[Si,e,HJ];rw[YU]at h
 cases b:s.run P w with
 |ok v w'=>rw[b]at h;exact h
 |halt x w'=>rw[b]at h;cases x<;>exact h
theorem Cy.lt{w:World}{b:Nat}{m:List (κ×Value)}(h:Cy P kt w b m):b<w.heap.size:=by
 obtain⟨⟨es,c,d,_⟩,_⟩:=h;exact Ad d
theorem Cy.notOwn{α:Type}[AK α]{w:World}{b B':Nat}{e:TypeId}{v:Value}{l:List α}{m:List (κ×Value)}(h:Cy P kt w b m)(O:AD B e w v l):¬AV B' v b:=by
 rintro⟨r,o,d⟩;obtain⟨⟨es,c,f,_⟩,_⟩:=h;rcases O with⟨_,a,rfl⟩|O
 ·exact d a rfl
 ·rcases O.2 with⟨rfl,_⟩|⟨g,cap,p,rfl,_,q,_⟩
  ·exact d none rfl
  ·have:g=b:=by simpa[Value.blk]using o
   subst this;rw[q]at f;cases f
theorem qR{α:Type}[AK α]{w:World}{b B':Nat}{e:TypeId}{v:Value}{l:List α}{o:Obj}(hb:w.heap[b]? = some o)(f:∀c t z,o≠.cells c t z)(O:AD B e w v l):¬AV B' v b:=by
 rintro⟨r,h,d⟩;rcases O with⟨_,a,rfl⟩|O
 ·exact d a rfl
 ·rcases O.2 with⟨rfl,_⟩|⟨g,cap,p,rfl,_,q,_⟩
  ·exact d none rfl
  ·have:g=b:=by simpa[Value.blk]using h
   subst this;rw[q]at hb;cases hb;exact f _ _ _ rfl
theorem Iu.fro{α:Type}[AK α]{w:World}{r b:Nat}{rest:List (κ×Value)}{B':Nat}{e:TypeId}{v:Value}{l:List α}(h:Iu P kt w r b rest)(O:AD B e w v l)(f:Fr (AV B' v) w w'):Iu P kt w' r b rest:=by
 have d:=h;obtain⟨Z,c,s,q,o,p,t⟩:=d;exact h.fr f (qR p (by simp) O) (qR o (by simp) O)
theorem ZZ{κ:Type}[DecidableEq κ](x:κ)(v:Value):∀(m:List (κ×Value)),(CW x v m).length<=m.length+1
 |[]=>by simp[CW]
 |(b,c)::r=>by
  unfold CW;split
  ·simp
  ·have:=ZZ x v r;simp;omega
end
theorem lZ{p:Nat->Prop}(h:∃n,p n):∃n,p n/\∀m,p m->n<=m:=by
 obtain⟨n,d⟩:=h
 induction n using Nat.strongRecOn with
 |ind n e =>
  by_cases c:∃m,m<n/\p m
  ·obtain⟨m,AY,b⟩:=c;exact e m AY b
  ·exact⟨n,d,λm b=>by
    rcases QH m n with h|h
    ·exact(c ⟨m,h,b⟩).elim
    ·exact h⟩
open Classical in
noncomputable def Lg (p:Nat->Prop):Nat:=if h:∃n,p n then(lZ h).choose else 0
theorem sX{p:Nat->Prop}(h:∃n,p n):p (Lg p)/\∀m,p m->Lg p<=m:=by
 unfold Lg;rw[dif_pos h];exact(lZ h).choose_spec
section
variable {P:Program} {T:Ce} {n:Nat}
theorem Pq(d:T.ok P=true)(m:Nat)(keep slots:List Nat)(I:Nat->List Value->World->Prop){body:Code}{Q:KS}{F:Nat->Value}(c:Kb m keep slots body=true)(h0:∃n,I n (By F slots) w)
  (e:∀i vs g w,vs.length=slots.length->I i vs w->S P T n body { Q with nrm:=λf w'=>∃b,b<i/\I b (By f slots) w' } (IH m keep (I7 slots vs) g F) w):BI P T n (.loop body) Q F w:=
 ML d m keep slots (λvs u=>∃i,I i vs u) (λvs u=>Lg λi=>I i vs u) c h0 λvs g u l o=>by
  obtain⟨p,_⟩:=sX o;refine IJ body _ _ _ _ (e _ vs g u l p) (λG w' _ h=>?_) (λ_ _ _ _ h=>h) (λ_ _ _ h=>h) (λ_ _ _ _ h=>h);obtain⟨b,AY,hi⟩:=h;exact⟨⟨b,hi⟩,Nat.lt_of_le_of_lt ((sX ⟨b,hi⟩).2 b hi) AY⟩
theorem Mx(d:T.ok P=true)(m:Nat)(keep:List Nat)(I:Nat->World->Prop){body:Code}{Q:KS}{F:Nat->Value}(b:Kb m keep [] body=true)(h0:∃n,I n w)
  (e:∀i g w,I i w->S P T n body { Q with nrm:=λ_ w'=>∃c,c<i/\I c w' } (IH m keep [] g F) w):BI P T n (.loop body) Q F w:=
 Pq d m keep [] (λi _ u=>I i u) b h0 λi vs g u f h=>by
  have:vs=[]:=Qn f;subst this;exact e i g u h
theorem IG(h:T.ok P=true)(m:Nat)(keep:List Nat)(b:Nat)(I:Nat->KW){body:Code}{Q:KS}{F:Nat->Value}(c:Kb m keep [b] body=true)(h0:∃n,I n (F b) w)
  (l:∀i e g w,I i e w->S P T n body { Q with nrm:=λo w'=>∃f,f<i/\I f (o b) w' } (IH m keep [(b,e)] g F) w):BI P T n (.loop body) Q F w:=
 Pq h m keep [b] (λi vs u=>match vs with|[v]=>I i v u|_=>False) c h0 λi vs g u p d=>by
  match vs,d with
  |[v],d=>exact l i v g u d
end
def eJ:Obj->Bool
 |.mapIter ..=>true
 |_=>false
abbrev lI (B:Nat) (u u':World):Prop:=Fr (λi=>B<=i/\∃o,u.heap[i]? = some o/\eJ o=true) u u'
theorem AD.itq{α:Type}[AK α]{C:Nat}{e:TypeId}{v:Value}{l:List α}(h:AD C e u v l)(q:lI B u u'):AD C e u' v l:=by
 rcases h with⟨b,d⟩|h
 ·exact .inl ⟨b,d⟩
 ·rcases h.2 with⟨rfl,b⟩|⟨g,cap,f,rfl,p,c,rest⟩
  ·exact .inr ⟨h.1,.inl ⟨rfl,b⟩⟩
  ·exact .inr ⟨h.1,.inr ⟨g,cap,f,rfl,p,q.blk c (λ⟨_,o,b,d⟩=>by rw[c]at b;cases b;cases d),rest⟩⟩
theorem Iu.itq{kt:TypeId}{κ:Type}[DecidableEq κ][M:Em P kt κ]{r b:Nat}{rest:List (κ×Value)}(h:Iu P kt w r b rest)(f:Fr (λi=>i=r) w w')(c:B<=r):lI B w w':=
 f.mono λi _ hi=>by
  subst hi;obtain⟨Z,e,s,l,o,d,p⟩:=h;exact⟨c,_,d,rfl⟩
theorem Gw.dr(h:Gw w w'):w.drawn<=w'.drawn:=by
 obtain⟨q,os,rfl⟩:=h;simp[World.drewN,Go.Sort.grow]
theorem Gw.ofE(h:Bp w w')(hd:w.drawn<=w'.drawn):Gw w w':=by
 refine⟨w'.drawn - w.drawn,w'.heap.extract w.heap.size w'.heap.size,?_⟩;have b:=h.os;have c:=h.tape;have d:=h.output
 have e:w'.heap=w.heap++w'.heap.extract w.heap.size w'.heap.size:=by
  apply Array.ext_getElem?;intro i;rcases QH i w.heap.size with hi|hi
  ·rw[Xn hi];exact h.block i hi nf
  ·rw[Array.getElem?_append_right hi];simp only[Array.getElem?_extract];have:=h.size;split
   ·congr 1;omega
   ·rw[Jn (by omega)]
 cases w;cases w';simp only[World.drewN,Go.Sort.grow,World.mk.injEq]at *;refine⟨e,c,by omega,b,d⟩
section
variable {P:Program} {k:KW} {pn:PW} {w:World}
theorem N0{t:TypeId}[f:BZ P t n]{x:World}{b off:Nat}{cs:List Value}{e:TypeId}[B:Bk x b cs e][L:Le x w]{v:Value}{vs:List Value}(h:v.cells.toList=vs)(l:vs.length=n)(c:Nat.ble (off+n) cs.length=true)(o:∀u∈vs,u.oneCell'=true)
  (p:∀w',Bk w' b (splice cs off vs) e->Fr (λi=>i=b) w w'->w'.heap.size=w.heap.size->w'.drawn=w.drawn->k undef w'):Ed P (Instr.storeAt t (.pointer (some ⟨b,off,none⟩)) v) k pn w:=
 have d:=Bk.up (w:=w) B
 Ed.of (lH f d h l (Vf c) o) (p _ ⟨by simpa using setRow_heap w b _ _ e _ d⟩ (Fr.setRow w b _) (by simp) (by rfl))
variable {α:Type} [AK α]
theorem Wk{t ty e:TypeId}{z:Value}{sz A:Nat}[J:DQ P t e][N:AX P e z sz A](x:α)(C:AK.sz α=sz)(K:z.cells.toList=enc x){v:Value}{l:List α}{dn O:Nat}(lo:Nat)(y:AD B e w v l)
  (hd:dn=0\/∃g,Value.blk v=some g/\a'=some ⟨g,lo*sz,none⟩)(E:lo+dn<=l.length)
  (L:∀w',AD B e w' v (l.take lo++List.replicate dn x++l.drop (lo+dn))->Fr (AV B v) w w'->k (.tuple #[]) w'):AI P (Builtin.clear_ #[t] ty #[.slice a' dn O]) k pn w:=by
 subst C;rcases X0 dn with h0|h0
 ·subst h0;have f:l.take lo++List.replicate 0 x++l.drop (lo+0)=l:=by simp
  refine AI.of (v:=.tuple #[]) (w':=w) ?_ (L w (by rw[f];exact y) (Fr.refl _ w));cases a'<;>simp[Builtin.clear_,run_underlying J.h]
 ·rcases hd with hd|⟨g,F,rfl⟩
  ·omega
  obtain⟨m,rfl⟩:∃m,dn=m+1:=⟨dn - 1,by omega⟩;have c:l≠[]:=by intro h0;subst h0;simp at E
  have G:(Ac (List.replicate (m+1) x)).length=(m+1)*AK.sz α:=by rw[KZ];simp
  have o:lo*AK.sz α+(Ac (List.replicate (m+1) x)).length<=l.length*AK.sz α:=by
   rw[G,<-Jo];exact Ji _ (by omega)
  have p:splice (Ac l) (lo*AK.sz α) (Ac (List.replicate (m+1) x))=Ac (l.take lo++List.replicate (m+1) x++l.drop (lo+(m+1))):=by
   simp only[Ew,ZT,Yy,splice,KZ,List.length_replicate,<-Jo]
  obtain⟨d,b,q,Q⟩:=y.stored (l':=l.take lo++List.replicate (m+1) x++l.drop (lo+(m+1))) (vs:=Ac (List.replicate (m+1) x)) F c (by simp;omega) o p;have r:=run_storeCells_at P g (lo*AK.sz α) e (Ac (List.replicate (m+1) x)) 0 d w b (by simpa using q) (UY _);simp only[Xy]at r;have H:z.cells.size=AK.sz α:=by rw[<-AK.len x,<-K];simp
  have I:(Builtin.zeroCells z.cells (m+1)).toList=Ac (List.replicate (m+1) x):=by
   rw[<-vE z.cells x K (m+1)];unfold Builtin.zeroCells madeCells;rw[H]
  have M:B<=g:=by obtain⟨U,s,M,_⟩:=y.lt c;rw[F]at s;cases s;exact M
  refine AI.of (v:=.tuple #[]) (w':=w.setRow g (splice d.toList (lo*AK.sz α) (Ac (List.replicate (m+1) x))).toArray) ?_ (L _ (Q _ (setRow_heap w g d _ e _ b)) ((Fr.setRow w g _).mono λj _ S=>⟨by omega,by rw[S];exact F,y.not0 c⟩));simp only[Builtin.clear_];simp[r,splice,run_underlying J.h,pX N,I]
theorem RP{t ty e:TypeId}{z:Value}{sz d:Nat}[p:DQ P t e][E:AX P e z sz d]{v x:Value}{l m:List α}(q:AK.sz α=sz/\z.cells.size=sz)
  (o:AD B e w v l)(y:AQ w x m)(F:B<=w.heap.size)(hb:(l.length+m.length)*d<=140737488355328/\l.length+m.length<=9223372036854775807)
  (A:∀c w',AD B e w' c (l++m)->Fr (AV B v) w w'->(Value.blk c=Value.blk v\/(Value.blk c=some w.heap.size/\w.heap.size<w'.heap.size))->k c w'):AI P (Builtin.append_ #[t,t] ty #[v,x]) k pn w:=by
 by_cases b:m=[]
 ·subst b;obtain⟨i,hi,L,M,G⟩:=info_parts E.h;obtain⟨r,N,rfl,H,Q⟩:=y;refine AI.of (v:=v) (w':=w) ?_ (A v w (by simp_all) (Fr.refl _ w) (.inl rfl));rcases o with⟨rfl,a,rfl⟩|o
  ·cases r<;>cases a<;>simp[Builtin.append_,run_underlying p.h,sizeOf,typeInfo,hi,Builtin.lenOf,Builtin.firstCells,loadCells,loadCellsFrom,storeCells]
  ·rcases o.2 with⟨rfl,S⟩|⟨g,cap,I,rfl,J,U,s,_⟩
   ·cases r<;>simp[Builtin.append_,run_underlying p.h,sizeOf,typeInfo,hi,Builtin.lenOf,Builtin.firstCells,loadCells,loadCellsFrom]
   ·cases r<;>simp[Builtin.append_,run_underlying p.h,sizeOf,typeInfo,hi,Builtin.lenOf,Builtin.firstCells,s,storeCells,loadCells,loadCellsFrom]
 ·exact GB q o y b F hb λc w' O f h=>A c w' O f (h.imp (λh=>h) λh=>⟨h,by
   obtain⟨g,C,_,K⟩:=O.lt (by simp[b]);rw[h]at C;cases C;exact K⟩)
theorem Pd{o:Oper}{F:Nat->Value}{t:TypeId}{x:Operand}{v:Value}(b:o.op=.call { callee:=.builtin .clear,args:=#[x],argTypes:=#[t] })(c:ev F x=v)(h:AI P (Builtin.clear_ #[t] o.type #[v]) k pn w):DT P (execOp (ev F) o) k pn w:=
 Oe (s:=Builtin.clear_ #[t] o.type #[v]) (by
  unfold execOp;simp only[b,resolve,pure_bind,invoke];simp only[Xi,QS,JP,c];rfl) h
end
open Go Go.Proofs
set_option maxRecDepth 10000
section
variable {P:Program} {kt:TypeId} {κ:Type} [DecidableEq κ] [M:Em P kt κ] {k:KW} {pn:PW} {w:World}
theorem Ni{t e:TypeId}{z:Value}{sz c:Nat}[l:EL P t kt e][o:AX P e z sz c]{b:Nat}{m:List (κ×Value)}{d:Value}(h:BO P kt w b m)(x:κ)(f:d=M.val x)(p:Au m x=none)(q:k (.tuple #[z,.bool false]) w):AI P (Instr.lookup t (.map (some b)) d true) k pn w:=
 Mn h x f (by simp_all)
theorem ND{t e:TypeId}{z:Value}{sz c:Nat}[l:EL P t kt e][o:AX P e z sz c]{b:Nat}{m:List (κ×Value)}{d:Value}(h:BO P kt w b m)(x:κ)(f:d=M.val x){v:Value}(p:Au m x=some v)(q:k (.tuple #[v,.bool true]) w):AI P (Instr.lookup t (.map (some b)) d true) k pn w:=
 Mn h x f (by simp_all)
end
theorem zLT{x:AN}:Sp PP 323 #[agg x] w λv w'=>Ao (Dz x) v/\AC w w':=by
 refine eN ?_;refine BM λb w1 n1 d=>rG d x.key (Ap λz A n2 r=>rE r x.key λy c e _=>?_);have c:Bk y z (enc x.key) 327:=c;have F:AC w y:=n2.st e;have d:=(d.mv (w:=A)).fr e (by have:=n1.b;have:=n1.s;have:=n2.b;omega);clear r e;refine rX c rfl (ite (λh=>?_) (λh=>⟨.f λm=>h m.1.1,stp⟩));refine rX c rfl (ite (λl=>?_) (λl=>⟨.f λm=>l m.1.2.1,stp⟩));refine rX c rfl (ite (λC=>?pos) (λC=>?neg))
 case' neg =>
  refine rX c rfl (ite (λE=>?one) (λE=>⟨.f λm=>by have:=m.1.2.2.1;omega,stp⟩))
 all_goals
  refine rX c rfl (ite (λh5=>?_) (λh5=>⟨.f λm=>h5 m.1.2.2.2.1,stp⟩));refine rX c rfl (ite (λo=>?_) (λo=>⟨.f λm=>o m.1.2.2.2.2,stp⟩));refine rX d rfl (ite (λp=>?_) (λp=>⟨.f λm=>p m.2.1,stp⟩));refine rX d rfl (ite (λq=>?_) (λq=>⟨.f λm=>q m.2.2,stp⟩));exact⟨.t ⟨⟨h,l,by omega,h5,o⟩,p,q⟩,stp⟩
theorem jB{c:Nat}{l:List AN}(h:AQ w (.slice a n c) l)(H:l.length<=1000000):Sp PP 240 #[.slice a n c] w λv w'=>Ao (∀x∈l,Dz x) v/\AC w w':=by
 have p:=h.len;obtain rfl:=p;refine eN ?_;refine cN 7 [2,4] 7 l.length (λk u=>(∀x∈l.take k,Dz x)/\AC w u) ⟨by simp,stp⟩ ?_;rintro k g u I ⟨b,e⟩;refine ite (λAY=>?_) (λy=>?_)
 ·have d:k<l.length:=by omega
  refine Bv (h.up (w':=u)) (x:=l[k]) (by simp) λJ K z=>Ai z rfl (Ap λA C n2 E=>rE E (l[k]) λs q F _=>?_);have q:Bk s A (enc l[k]) 329:=q;have L:AC w s:=⟨Fr.st (lE w C) F λi hi=>by subst hi;exact n2.lo⟩;refine rG q (l[k]) (AA zLT ?_);rintro _ M ⟨⟨rfl,r⟩|⟨rfl,r⟩,N⟩
  ·refine rA ⟨rfl,d,λx o=>?_,stp⟩;rw[Cs d]at o;have p:=Qf.1 o;rcases p with o|o
   ·exact b x o
   ·rw[Qc.1 o];exact r
  ·exact⟨.f λG=>r (G _ (Qa d)),stp⟩
 ·have p:k=l.length:=by omega
  obtain rfl:=p;rw[Qg]at b;exact⟨.t b,e⟩
theorem yF{x y:AN}:Sp PP 367 #[agg x,agg y] w λv w'=>Ao (x.d<y.d) v/\AC w w':=by
 refine eN ?_;refine BM λb w1 n1 c=>BM λl o n2 e=>rX c rfl (rX e rfl ?_);refine ite (λh=>⟨.t h,stp⟩) (λh=>⟨.f h,stp⟩)
def WH (a b:AN):Int:=Mv [Bl a.key.slot b.key.slot,Bl a.key.dir b.key.dir,Bl a.key.v b.key.v]
theorem dJ(a b:AN):WH a b<0↔Bw a.key b.key:=by simp[WH,Bw,LP,or_nil]
theorem rU:Go.Sort.SWO (ltOf WH):=Lc (λa b=>Bw a.key b.key) dJ (λx h=>PK h rfl) (λ_ _ _=>bU) (λx y z h k=>by unfold Bw at *;omega)
theorem zFx{x y:AN}:Sp PP 369 #[agg x,agg y] w λv w'=>v=.int .i64 (WH x y)/\Gw w w':=by
 refine eN ?_;refine BM λbx w1 n1 O=>BM λA t n2 Q=>?_;have d2:=(n1.gw.trans n2.gw).dr;have l1:bx<t.heap.size:=(O.mv (w:=t)).lt;have l2:A<t.heap.size:=Q.lt;refine HO Aa mixed (λi=>t.heap.size<=i) (.one 0 (.one 1 (.one 2 (.one 3 (.duo 4 (.one 5 (.one 6 (.one 7 .nil))) 5 (.one 4 (.one 6 (.one 7 .nil)))))))) (by kernel_rfl) λz U S=>?_;have l3:=U.e.size;refine tG O x.key (by omega) (tG Q y.key (by omega) ?_);refine⟨?_,?_⟩
 ·refine Ap λC V n4 p=>⟨Fr.fr n4.e,?_⟩;refine Ap λE f n5 q=>⟨Fr.fr n5.e,?_⟩;have F:=n4.b;have G:=n4.s;have H:=n5.b;have I:=n5.s;refine N0 (B:=p.mv (w:=f)) (vs:=enc x.key) rfl rfl rfl (AK.one _) λJ c h _ W=>⟨h.mono λi _ hi=>by omega,?_⟩;have c:Bk J C (enc x.key) 327:=c;refine N0 (B:=(q.mv (w:=f)).fr h (by omega)) (vs:=enc y.key) rfl rfl rfl (AK.one _) λl d o _ X=>⟨o.mono λi _ hi=>by omega,?_⟩;have d:Bk l E (enc y.key) 327:=d;have c:=c.fr o (by omega);have K:AC w l:=⟨Fr.st (Fr.st (lE w f) h λi hi=>by have:=lz w z;omega) o λi hi=>by have:=lz w z;omega⟩;have L:w.drawn<=l.drawn:=by have:=S.dr;have:=n4.gw.dr;have:=n5.gw.dr;omega
  clear p q;refine HO Aa mixed (λ_=>False) (.one 0 (.one 1 (.one 2 (.one 3 (.one 5 (.one 6 (.one 7 (.one 8 (.one 10 (.one 11 (.one 12 (.one 13 (.one 4 (.one 9 (.one 14 (.one 15 (.one 16 (.one 17 .nil)))))))))))))))))) (by kernel_rfl) λY Z M=>?_;refine tX c rfl nf (tX d rfl nf ?_);refine tX c rfl nf (tX d rfl nf ?_);refine tX c rfl nf (tX d rfl nf ?_);refine AA Ms ?_;rintro v u4 ⟨rfl,rfl⟩;refine⟨Fr.refl _ _,?_⟩;refine AA Ms ?_;rintro v u5 ⟨rfl,rfl⟩;refine⟨Fr.refl _ _,?_⟩;refine AA Ms ?_;rintro v u6 ⟨rfl,rfl⟩;refine⟨Fr.refl _ _,?_⟩;refine OZ [Bl x.key.slot y.key.slot,Bl x.key.dir y.key.dir,Bl x.key.v y.key.v] rfl (vs:=[.int .i64 (Bl x.key.slot y.key.slot),.int .i64 (Bl x.key.dir y.key.dir),.int .i64 (Bl x.key.v y.key.v)]) rfl rfl (by decide) λb9 w9 r N=>⟨r.e,?_⟩;refine AA (XW N (by simp)) ?_;rintro v u9 ⟨rfl,rfl⟩;refine⟨Fr.refl _ _,?_⟩;exact⟨rfl,(Gw.ofE K.e L).trans (M.trans r.gw)⟩
 ·refine Ap λE V n4 q=>⟨Fr.fr n4.e,?_⟩;refine Ap λC f n5 p=>⟨Fr.fr n5.e,?_⟩;have F:=n4.b;have G:=n4.s;have H:=n5.b;have I:=n5.s;refine N0 (B:=p.mv (w:=f)) (vs:=enc x.key) rfl rfl rfl (AK.one _) λJ c h _ W=>⟨h.mono λi _ hi=>by omega,?_⟩;have c:Bk J C (enc x.key) 327:=c;refine N0 (B:=(q.mv (w:=f)).fr h (by omega)) (vs:=enc y.key) rfl rfl rfl (AK.one _) λl d o _ X=>⟨o.mono λi _ hi=>by omega,?_⟩;have d:Bk l E (enc y.key) 327:=d;have c:=c.fr o (by omega);have K:AC w l:=⟨Fr.st (Fr.st (lE w f) h λi hi=>by have:=lz w z;omega) o λi hi=>by have:=lz w z;omega⟩;have L:w.drawn<=l.drawn:=by have:=S.dr;have:=n4.gw.dr;have:=n5.gw.dr;omega
  clear p q;refine HO Aa mixed (λ_=>False) (.one 0 (.one 1 (.one 2 (.one 3 (.one 5 (.one 6 (.one 7 (.one 8 (.one 10 (.one 11 (.one 12 (.one 13 (.one 4 (.one 9 (.one 14 (.one 15 (.one 16 (.one 17 .nil)))))))))))))))))) (by kernel_rfl) λY Z M=>?_;refine tX c rfl nf (tX d rfl nf ?_);refine tX c rfl nf (tX d rfl nf ?_);refine tX c rfl nf (tX d rfl nf ?_);refine AA Ms ?_;rintro v u4 ⟨rfl,rfl⟩;refine⟨Fr.refl _ _,?_⟩;refine AA Ms ?_;rintro v u5 ⟨rfl,rfl⟩;refine⟨Fr.refl _ _,?_⟩;refine AA Ms ?_;rintro v u6 ⟨rfl,rfl⟩;refine⟨Fr.refl _ _,?_⟩;refine OZ [Bl x.key.slot y.key.slot,Bl x.key.dir y.key.dir,Bl x.key.v y.key.v] rfl (vs:=[.int .i64 (Bl x.key.slot y.key.slot),.int .i64 (Bl x.key.dir y.key.dir),.int .i64 (Bl x.key.v y.key.v)]) rfl rfl (by decide) λb9 w9 r N=>⟨r.e,?_⟩;refine AA (XW N (by simp)) ?_;rintro v u9 ⟨rfl,rfl⟩;refine⟨Fr.refl _ _,?_⟩;exact⟨rfl,(Gw.ofE K.e L).trans (M.trans r.gw)⟩
def Ta:Value->AN
 |.agg cs=>match cs.toList with
  |[.int _ a,.int _ b,.int _ c,.int _ d]=>⟨⟨a,b,c⟩,d⟩
  |_=>LK
 |_=>LK
theorem dG(z:AN):Ta (agg z)=z:=rfl
structure Gh (l:List AN) (m:List (Al×Value)):Prop where
 val:∀p∈m,∃z,p.1=z.key/\p.2=agg z/\Ca l z
 all:∀x∈l,∃v,(x.key,v)∈m
theorem Gh.set{l:List AN}{m:List (Al×Value)}{x:AN}(h:Gh l m)(f:(m.map (·.1)).Nodup)(s:∀y∈l,y.key=x.key->x.d<=y.d):Gh (l++[x]) (CW x.key (agg x) m):=by
 refine⟨λp t=>?_,λy b=>?_⟩
 ·obtain⟨G,H⟩:=p;have c:=(KI f).1 t;rcases c with⟨o,q⟩|⟨o,q⟩
  ·subst o;subst q;refine⟨x,rfl,rfl,by simp,λy b e=>?_⟩;have c:=Qf.1 b;rcases c with b|b
   ·exact s y b e
   ·rw[Qc.1 b];exact Vr _
  ·have c:=h.val _ q;obtain⟨z,r,A,C,E⟩:=c;refine⟨z,r,A,QN _ C,λy b e=>?_⟩;have c:=Qf.1 b;rcases c with b|b
   ·exact E y b e
   ·rw[Qc.1 b]at e;exact absurd (r.trans e.symm) o
 ·have c:=Qf.1 b;rcases c with b|b
  ·have c:=h.all y b;obtain⟨v,F⟩:=c;by_cases e:y.key=x.key
   ·exact⟨agg x,(KI f).2 (.inl ⟨e,rfl⟩)⟩
   ·exact⟨v,(KI f).2 (.inr ⟨e,F⟩)⟩
  ·rw[Qc.1 b];exact⟨agg x,(KI f).2 (.inl ⟨rfl,rfl⟩)⟩
theorem Gh.keep{l:List AN}{m:List (Al×Value)}{x z:AN}(h:Gh l m)(f:Ca l z)(o:z.key=x.key)(hd:¬x.d<z.d):Gh (l++[x]) m:=by
 refine⟨λp r=>?_,λy b=>?_⟩
 ·have c:=h.val p r;obtain⟨u,s,t,v,q⟩:=c;refine⟨u,s,t,QN _ v,λy b e=>?_⟩;have c:=Qf.1 b;rcases c with b|b
  ·exact q y b e
  ·rw[Qc.1 b]at e ⊢;have:=q z f.1 (o.trans e);omega
 ·have c:=Qf.1 b;rcases c with b|b
  ·exact h.all y b
  ·rw[Qc.1 b,<-o];exact h.all z f.1
theorem Gh.out{l out:List AN}{m:List (Al×Value)}(h:Gh l m)(x:(m.map (·.1)).Nodup)(q:out.Perm (m.map λp=>Ta p.2))(r:CE out):out=Eb l:=by
 refine kM r λz=>?_;rw[q.mem_iff,Qq];constructor
 ·rintro⟨p,s,rfl⟩;have b:=h.val p s;obtain⟨u,c,d,e⟩:=b;rw[d,dG];exact e
 ·intro f;have b:=h.all z f.1;obtain⟨v,o⟩:=b;have b:=h.val _ o;obtain⟨u,c,d,e,t⟩:=b;refine⟨_,o,?_⟩;simp only at c d;rw[d,dG];have y:=t z f.1 c;have a2:=f.2 u e c.symm;exact aR c.symm (by omega)
theorem Gh.apart{l:List AN}{m:List (Al×Value)}(h:Gh l m)(f:(m.map (·.1)).Nodup):(m.map λp=>Ta p.2).Pairwise λa b=>a.key≠b.key:=by
 rw[Qx,QY]at f;rw[QY];refine Vv (λ{a b} o hb q=>?_) f;have c:=h.val a o;obtain⟨u,r,s,_⟩:=c;have c:=h.val b hb;obtain⟨u',d,e,_⟩:=c;rw[s,e,dG,dG,<-r,<-d];exact q
theorem zHT{c:Nat}{l:List AN}(h:AQ w (.slice a n c) l)(hl:l.length<=1000000):
  Sp PP 320 #[.slice a n c] w λv w'=>AD w.heap.size 329 w' v (Eb l)/\AC w w':=by
 have E:=h.len;obtain rfl:=E;refine eN ?_;refine K0 (kt:=327) (κ:=Al) rfl λX w1 n1 M1=>?_;have hb:=n1.lo (u:=w);refine cN 15 [5,6,7,8] 15 l.length (λk u=>∃m,Cy PP 327 u X m/\Gh (l.take k) m/\m.length<=k/\AC w u) ⟨[],M1,⟨by simp,by simp⟩,by simp,stp⟩ ?_;rintro k g u hk ⟨m,M,C,hm,su⟩;have A:=M.2;refine ite (λAY=>?_) (λc1=>?_)
 ·have F:k<l.length:=by omega
  refine Bv (h.up (w':=u)) (x:=l[k]) (by simp) λb1 o1 A1=>Ai A1 rfl (Ap λb2 u2 n2 z2=>?_);have c2:=n2.b;have c3:=n2.s;refine rE z2 (l[k]) λJ Y f3 _=>?_;have Y:Bk J b2 (enc l[k]) 329:=Y;have c4:=M.lt;have s3:AC u J:=⟨Fr.st (lE u u2) f3 λi hi=>by omega⟩;have M3:Cy PP 327 J X m:=M.up;refine rG Y (l[k]) (rG Y (l[k].key) ?_);have K:l.take (k+1)=l.take k++[l[k]]:=Cs F
  cases hg:Au m l[k].key with
  |none =>
   have N:∀y∈l.take k,y.key=l[k].key->l[k].d<=y.d:=λy hy e=>by
    have E:=C.all y hy;obtain⟨v,hv⟩:=E;have:=TQ A hv;rw[e,hg]at this;cases this
   refine Ni M3.l l[k].key rfl hg ?_;refine Ap λb4 Q n4 z4=>rE z4 LK λt Y5 H _=>?_;have a4:=n4.b;have a5:=n4.s;have S:Bk t b2 (enc l[k]) 329:=(Y.mv (w:=Q)).fr H (by omega);have s5:AC J t:=⟨Fr.st (lE J Q) H λi hi=>by omega⟩;have Z:Cy PP 327 t X m:=M3.up;refine rG S (l[k].key) (rG S (l[k]) (Cv Z l[k].key rfl λI M6 f6 _=>?_));exact rA ⟨rfl,F,_,M6,by rw[K];exact C.set A N,Qw (ZZ _ _ _) (by omega),⟨Fr.st (Le.e (a:=w)) f6 λi hi=>by omega⟩⟩
  |some v =>
   have a6:=SJ hg;have E:=C.val _ a6;obtain⟨z,e1,e2,hz⟩:=E;simp only at e1 e2;subst e2;refine ND M3.l l[k].key rfl hg ?_;refine Ap λb4 Q n4 z4=>rE z4 z λt Y5 H _=>?_;have a4:=n4.b;have a5:=n4.s;have S:Bk t b2 (enc l[k]) 329:=(Y.mv (w:=Q)).fr H (by omega);have s5:AC J t:=⟨Fr.st (lE J Q) H λi hi=>by omega⟩;have Z:Cy PP 327 t X m:=M3.up;have Y5:Bk t b4 (enc z) 329:=Y5;refine rG Y5 z (AA (yF (x:=l[k]) (y:=z)) ?_);rintro _ I ⟨⟨rfl,h6⟩|⟨rfl,h6⟩,e6⟩
   ·have N:∀y∈l.take k,y.key=l[k].key->l[k].d<=y.d:=λy hy e=>by
     have:=hz.2 y hy (e.trans e1);omega
    have S:=S.mv (w:=I);have Z:=Z.up (w':=I);refine rG S (l[k].key) (rG S (l[k]) (Cv Z l[k].key rfl λI M6 f6 _=>?_));exact rA ⟨rfl,F,_,M6,by rw[K];exact C.set A N,Qw (ZZ _ _ _) (by omega),⟨Fr.st (Le.e (a:=w)) f6 λi hi=>by omega⟩⟩
   ·exact rA ⟨rfl,F,m,Z.up,by rw[K];exact C.keep hz e1.symm h6,by omega,stp⟩
 ·have E:k=l.length:=by omega
  obtain rfl:=E;rw[Qg]at C;refine Oe rfl (Ix M λr w2 nr a7 Mr=>?_);have hr:=nr.b;have c5:=lz w u
  refine IG Aa 42 [11] 9 (λi v u=>∃(done rest:List (Al×Value)) (L:List AN),rest.length=i/\(done++rest).Perm m/\L=(done.map λp=>Ta p.2)/\AD w.heap.size 329 u v L/\Iu PP 327 u r X rest/\AC w u) rfl
   ⟨_,[],m,[],rfl,.refl _,rfl,AD.nil _ _ _,a7,stp⟩ ?_
  rintro i vl G Q ⟨done,rest,L,hi,hp,rfl,O,It,s4⟩;have a8:=hp.length_eq;rw[Qb]at a8;refine Oe rfl (LM It (λU=>?_) λx v o t V hC H c6=>?_)
  ·subst U;rw[QE]at hp;refine AA (W1 Tryz.sortM (k:=4) (show FZ PP 329 4 from inferInstance) rfl WH rU (f:=368) rfl (λx y W=>zFx) O (by simp;omega)) ?_;rintro _ I ⟨rfl,l',a9,a0,O6,f6⟩;have s6:Gl w Q I:=Mu f6;have a1:=a9.trans (hp.map λp=>Ta p.2);have b0:=C.apart A
   have e6:l'=Eb l:=by
    refine C.out A a1 ?_;have a3:l'.Pairwise λa b=>a.key≠b.key:=(a1.pairwise_iff λh=>Jq h).2 b0;exact(a0.and a3).imp λ⟨g1,g2⟩=>ZY (λhl=>g1 ((dJ _ _).2 hl)) (Jq g2)
   rw[<-e6];exact⟨O6,stp⟩
  ·have b3:(x,v)∈m:=hp.mem_iff.1 (JJ _ (V.mem_iff.1 Qs));have E:=C.val _ b3;obtain⟨z,e1,e2,hz⟩:=E;simp only at e1 e2;subst e2;have s5:AC w t:=⟨Fr.st s4.e H λi hi=>by omega⟩
   have b5:(done++[(x,agg z)]++o).Perm m:=by
    rw[Qp];exact(Vp done V).trans hp
   have b7:=V.length_eq;rw[QA]at b7;have O5:AD w.heap.size 329 t vl (done.map λp=>Ta p.2):=O.itq (It.itq H (Qe r));refine Oe rfl (Iw hC ?_);have b9:=hC.b;refine Ap λb6 I n6 z6=>?_;have c7:=n6.b;have a0:=n6.s;refine rE z6 z λu7 X7 f7 _=>?_;have X7:Bk u7 b6 (enc z) 329:=X7;have s7:AC t u7:=⟨Fr.st (lE t I) f7 λi hi=>by omega⟩;refine rG X7 z (bS z λb8 u8 e8 _ S8=>Ax (u:=w) ⟨rfl,rfl⟩ (O5.up (w':=u8)) S8 (by simp;omega) λv9 u9 O9 f9 s9=>?_);have c0:=(b9.up (w':=u8)).fro (O5.up (w':=u8)) f9
   have fin:∃(done q:List (Al×Value)) (L:List AN),q.length=o.length/\(done++q).Perm m/\L=(done.map λp=>Ta p.2)/\AD w.heap.size 329 u9 v9 L/\Iu PP 327 u9 r X q/\AC w u9:=
    ⟨done++[(x,agg z)],o,(done.map λp=>Ta p.2)++[z],rfl,b5,by rw[QB];rfl,O9,c0,stp⟩
   exact⟨o.length,by omega,fin⟩
theorem IZ(x:Int):∀u∈[Value.int .i64 x],u.oneCell'=true:=by simp;rfl
theorem YY{kd:IntKind}{x y:Int}{k:KW}(c:0<y)(b:k (.int kd (x.tmod y)) w):PC kd x y k w:=by
 rw[aD];exact⟨by omega,b⟩
theorem xH{x y:Int}(h:0<y):- y<x.tmod y/\x.tmod y<y:=by
 have b:=Int.le_total 0 x;rcases b with h0|h0
 ·rw[Xl h0];have c:=Vs x (show y≠0 by omega);have d:=VT x h;omega
 ·have e:x.tmod y = -((-x) % y):=by
   have:x = -(-x):=by omega
   rw[this,Int.neg_tmod,Xl (by omega)];simp
  have c:=Vs (-x) (show y≠0 by omega);have d:=VT (-x) h;omega
theorem zLB{n p:Int}(b:1<=n/\n<=1000000):Sp PP 366 #[.int .i64 n,.int .i64 p] w λv w'=>(∃k:Int,v=.tuple #[.int .i64 k,.bool true]/\0<=k/\k<n)/\w'=w:=by
 refine eN ?_;refine iF (by omega) (YY (by omega) ?_);have hb:=xH (x:=p) (y:=n) (by omega);refine ite (λh=>?_) (λh=>?_)
 ·refine rA ?_;exact⟨⟨_,rfl,by omega,by omega⟩,rfl⟩
 ·exact⟨⟨_,rfl,by omega,by omega⟩,rfl⟩
theorem Ym{α:Type}[AK α]{t e:TypeId}{z:Value}{sz b:Nat}[p:DQ P t e][q:AX P e z sz b]{k:Value->Prop}{c:Nat}{l:List α}(lo hi:Option Nat)(h:AD B e w (.slice a n c) l)(r:lo.getD 0<=hi.getD n)(A:hi.getD n<=n)
  (s:∀a' d,(hi.getD n - lo.getD 0=0\/∃g,Value.blk (.slice a n c)=some g/\a'=some ⟨g,lo.getD 0*sz,none⟩)->k (.slice a' (hi.getD n - lo.getD 0) d)):Ar P (Instr.sliceAt t (.slice a n c) (PB lo) (PB hi) none) D k w:=by
 have v:n<=c:=by obtain⟨a',d,f,o,_⟩:=h.sl;cases f;exact o
 rw[Iv];refine⟨_,λw' _=>Sf p q lo hi r (by omega) w',s _ _ ?_⟩;by_cases h0:hi.getD n - lo.getD 0=0
 ·exact .inl h0
 ·right;have x:n=l.length:=by obtain⟨a',d,f,o,_⟩:=h.sl;cases f;rfl
  obtain⟨g,y,rfl,_⟩:=h.blk (by intro h0;subst h0;simp at x;omega);exact⟨g,rfl,by rw[if_neg (by omega)];simp[Oj]⟩
theorem Fr.st'{E:Nat->Prop}{a b c:World}(h:Fr D a b)(f:Fr E b c)(hE:∀i,E i->a.heap.size<=i):Fr D a c:=
 ⟨f.os.trans h.os,f.tape.trans h.tape,f.output.trans h.output,Qw h.size f.size,λi hi hd=>(f.block i (QJ hi h.size) λe=>absurd (hE i e) (by omega)).trans (h.block i hi hd),λi o l d=>f.nc i o (h.nc i o l d) d⟩
structure EQ (w0 w:World) (bi bp:Nat) (a:OA) (c:Nat) (ps:List Int) (j:Int):Prop where
 ext:Bp w0 w
 row:AQ w0 (.slice a ps.length c) ps
 i:Bk w bi [.int .i64 j] 3
 p:Bk w bp [.slice a ps.length c] 63
 lo:w0.heap.size<=bi
 ne:bp≠bi
abbrev PZ (bi bp:Nat):Value:=.func (.func 365) #[] #[.pointer (some ⟨bi,0,none⟩),.pointer (some ⟨bp,0,none⟩)]
theorem EQ.up{w0:World}[Le w w']{b d:Nat}{c:Nat}{j:Int}(h:EQ w0 w b d a c ps j):EQ w0 w' b d a c ps j:=
 ⟨h.ext.trans Le.e,h.row,h.i.mv,h.p.mv,h.lo,h.ne⟩
theorem EQ.fr{w0:World}{b d:Nat}{c:Nat}{j:Int}(h:EQ w0 w b d a c ps j)(f:Fr D w w')(e:¬D b)(l:¬D d)(o:∀i,D i->w0.heap.size<=i):EQ w0 w' b d a c ps j:=
 ⟨Fr.st h.ext f o,h.row,h.i.fr f e,h.p.fr f l,h.lo,h.ne⟩
theorem oR{n j:Int}{d e:Nat}{c:Nat}{w0:World}(r:1<=n/\n<=1000000)(C:-1<=j/\j<=1000000000)(S:EQ w0 w d e a c ps j):
  Sp PP 365 #[.int .i64 n,.pointer (some ⟨d,0,none⟩),.pointer (some ⟨e,0,none⟩)] w λv w'=>(∃k:Int,v=.int .i64 k/\0<=k/\k<n)/\EQ w0 w' d e a c ps (j+1)/\Fr (λi=>i=d) w w':=by
 refine eN ?_;refine rX S.i rfl (rA (rS S.i [.int .i64 (j+1)] (IZ _) λo l f _=>?_));have l:Bk o d [.int .i64 (j+1)] 3:=l;have b:EQ w0 o d e a c ps (j+1):=⟨Fr.st S.ext f λi hi=>by have:=S.lo;omega,S.row,l,S.p.fr f S.ne,S.lo,S.ne⟩;refine rX b.i rfl (rX b.p rfl (ite (λh=>⟨⟨0,rfl,by omega,by omega⟩,b,f⟩) (λh=>?_)));refine rX b.p rfl (rX b.i rfl ?_);have s:∃m:Nat,j+1=(m:Int):=⟨(j+1).toNat,by omega⟩;obtain⟨m,q⟩:=s;have t:m<ps.length:=by omega
 rw[q];refine Bv (b.row.ext b.ext) (x:=ps[m]) (by simp) λE F y=>AF (y.cell0 rfl) (AA (zLB r) ?_);rintro _ G ⟨⟨k,rfl,z,A⟩,rfl⟩;exact⟨⟨k,rfl,z,A⟩,q ▸ b,f⟩
theorem mI{c:Nat}(h:AQ w (.slice a n c) ps):Sp PP 318 #[.slice a n c] w λv w'=>(∃f d,v=PZ f d/\EQ w w' f d a c ps (-1)/\d<w'.heap.size/\w.heap.size<=d)/\AC w w':=by
 have x:=h.len;obtain rfl:=x;refine eN ?_;refine BM λd w1 n1 y=>Ap λf o n2 z=>?_;have A:=n1.b;have C:=n1.s;have E:=n2.b;have F:=n2.s;refine rS z [.int .i64 (-1)] (IZ _) λp l q _=>?_;have l:Bk p f [.int .i64 (-1)] 3:=l;have r:AC w p:=⟨Fr.st (lE w o) q λi hi=>by omega⟩;have t:=(y.mv (w:=o)).fr q (by omega);exact⟨⟨f,d,rfl,⟨r.e,h,l,t,by omega,by omega⟩,t.lt,by omega⟩,r⟩
structure UE (B:Nat) (w0 u:World) (bi bp:Nat) (a:OA) (c:Nat) (ps:List Int) (g cc:Nat) (l:List Int) (vl vo:Value) (n:Nat):Prop where
 ex:∃(L out:List Int),vl=.slice (some ⟨g,0,none⟩) L.length cc/\L.length=n/\AD B 3 u (.slice (some ⟨g,0,none⟩) L.length cc) L/\AD B 3 u vo out/\(out++L).Perm l/\(∀b,Value.blk vo=some b->b≠g)/\EQ w0 u bi bp a c ps (-1+out.length)
theorem zFq{al:OA}{nl cl:Nat}{l:List Int}{d s:Nat}{c:Nat}{w0:World}(hl:AQ w0 (.slice al nl cl) l)(hn:l.length<=100000)(S:EQ w0 w d s a c ps (-1)):
  Sp PP 317 #[.slice al nl cl,PZ d s] w λv w'=>(∃l',l'.Perm l/\AD w.heap.size 3 w' v l')/\Fr (λi=>i=d) w w':=by
 have t:=hl.len;obtain rfl:=t;have a4:=S.lo;have a5:=S.i.lt;have a6:=S.p.lt;refine eN ?_;refine Id (default:Int) rfl rfl (by omega) λg w1 O1 s1 a9=>?_;have Q:=S.up (w':=w1);refine dE (u:=w) (lo:=0) rfl O1 (hl.ext Q.ext) (.inr ⟨g,rfl,by simp⟩) (by simp) (by simp) λw2 O2 f2 s2 _=>?_;have e2:(List.replicate l.length (default:Int)).take 0++l++(List.replicate l.length (default:Int)).drop (0+l.length)=l:=by simp
 rw[e2]at O2;have S2:EQ w0 w2 d s a c ps (-1):=Q.fr f2 (λhd=>by have:=hd.1;omega) (λhd=>by have:=hd.1;omega) (λi hd=>by have:=hd.1;omega);have F2:Fr (λi=>i=d) w w2:=Fr.fr (Fr.st s1.e f2 λi hd=>hd.1);clear O1 Q;refine HG Aa 14 [7] 5 6 (λJ vo u=>(∃n,UE w.heap.size w0 u d s a c ps g l.length l J vo n)/\Fr (λi=>i=d) w u) (λJ _ _=>match J with | .slice _ n _=>n|_=>0) rfl ⟨⟨_,⟨l,[],rfl,rfl,O2,AD.nil _ _ _,.refl _,(λb hb=>(by cases hb)),by simpa using S2⟩⟩,F2⟩ ?_;rintro J vo G u ⟨⟨n,⟨L,out,rfl,b0,OL,OO,K,y,Su⟩⟩,U⟩;have z:=K.length_eq;rw[Qb]at z;have b2:=U.size;refine ite (λKw=>?_) (λb3=>?_)
 ·have f:0<L.length:=by omega
  have A:L≠[]:=by intro h;rw[h]at f;simp at f
  refine AA (oR (n:=(L.length:Int)) (by omega) (by omega) Su) ?_;rintro _ u3 ⟨⟨k,rfl,b5,b6⟩,S3,M⟩;have t:∃p:Nat,k=(p:Int):=⟨k.toNat,by omega⟩;obtain⟨p,rfl⟩:=t;have V:p<L.length:=by omega
  have o:=OL.fr M λb hb _ hd=>by omega
  have W:=OO.fr M λb hb _ hd=>by omega
  have z3:=M.size;refine Bv o.sl (x:=L[p]) (by simp) λb1 o1 A1=>AF (A1.cell0 rfl) (HS L[p] rfl rfl (by decide) λb4 q n4 _ S4=>?_);have z4:=lz u3 q;refine GB ⟨rfl,rfl⟩ (W.up (w':=q)) S4 (by simp) (by omega) (by simp;omega) λv5 X O5 N Y=>?_
  have b7:g<q.heap.size:=by
   have t:=(o.up (w':=q)).lt A;obtain⟨g',C,_,Z⟩:=t;cases C;exact Z
  have E:∀b,Value.blk v5=some b->b≠g:=λb hb=>by
   rcases Y with h|h
   ·rw[h]at hb;exact y b hb
   ·rw[h]at hb;cases hb;omega
  have a0:=(o.up (w':=q)).fr N λb _ hb hd=>by
   have C:=hd.2.1;cases hb;exact y _ C rfl
  have S5:=(S3.up (w':=q)).fr N (λhd=>by have:=hd.1;omega) (λhd=>by have:=hd.1;omega) (λi hd=>by have:=hd.1;omega);refine dD (λi=>w.heap.size<=i) (Hn 8 0) λF e6=>?_;have r:=a0.up (w':=F);have O6:=O5.up (w':=F);have S6:=S5.up (w':=F);refine Ym (some p) none r (by simp;omega) (by simp) λa7 c7 h7=>?_;refine rF (p+1) (Wv (some (p+1)) none r.sl (by simp;omega) (by simp) λa8 c8 S8=>?_)
  have a3:((L.drop ((some (p+1)).getD 0)).take ((none:Option Nat).getD L.length - (some (p+1)).getD 0))=L.drop (p+1):=by
   simp only[QP,JQ];exact Qj (by simp)
  rw[a3]at S8;simp only[QP,JQ]at S8 h7;refine UV rfl p r S8 h7 (show p+(L.length - p)<=L.length by omega) (show(L.drop (p+1)).length<=L.length - p by rw[QR];omega) λu7 O7 O z7=>⟨O.mono λi _ hd=>hd.1,?_⟩
  have e7:L.take p++L.drop (p+1)++L.drop (p+(L.drop (p+1)).length)=L.eraseIdx p++L.drop (L.length - 1):=by
   rw[Jp,QR,show p+(L.length - (p+1))=L.length - 1 by omega]
  rw[e7]at O7;have H:(L.eraseIdx p).length=L.length - 1:=by rw[Vt,if_pos V]
  have I:=O7.cut (m:=L.length - 1) (by omega) (by intro h;have:=congrArg List.length h;simp at this;omega);obtain⟨Oc,_⟩:=I;rw[VY (by omega),Qj (by omega)]at Oc;refine rF (L.length - 1) (PF (m:=L.length - 1) (by omega) ?_)
  have b8:=O6.fr O λb _ hb hd=>by
   have C:=hd.2.1;cases C;exact E _ hb rfl
  have z6:=lz X F;have b9:=N.size;have c0:=S6.fr O (λhd=>by have:=hd.1;omega) (λhd=>by have:=hd.1;omega) (λi hd=>by have:=hd.1;omega)
  have F7:Fr (λi=>i=d) w u7:=by
   have a1:Fr (λi=>i=d) w q:=(U.trans M).trans (Fr.fr n4.e);have a2:Fr (λi=>i=d) w X:=Fr.st' a1 N λi hd=>hd.1;exact Fr.st' (a2.trans (fE X F)) O λi hd=>hd.1
  have c1:((out++[L[p]])++L.eraseIdx p).Perm l:=by
   refine List.Perm.trans ?_ K;rw[Qp];refine Vp out ?_;rw[Jp];have Z:L=L.take p++L[p]::L.drop (p+1):=by rw[List.getElem_cons_drop,JW]
   exact((XH (a:=L[p]) (l₁:=L.take p) (l₂:=L.drop (p+1))).symm).trans (List.Perm.of_eq Z.symm)
  have c2:(-1:Int)+(out++[L[p]]).length = -1+out.length+1:=by simp;omega
  have fin:UE w.heap.size w0 u7 d s a c ps g l.length l (.slice (some ⟨g,0,none⟩) (L.length - 1) l.length) v5 (L.length - 1):=⟨L.eraseIdx p,out++[L[p]],by rw[H],H,by simp_all⟩;exact⟨⟨⟨_,fin⟩,F7⟩,by show L.length - 1<L.length;omega⟩
 ·have f:L=[]:=Qn (by omega);subst f;rw[QE]at K;exact⟨⟨out,K,OO⟩,U⟩
structure TY (B:Nat) (w0 u:World) (bi bp:Nat) (a:OA) (c:Nat) (ps:List Int) (g cc:Nat) (l:List AN) (vl vo:Value) (n:Nat):Prop where
 ex:∃(L out:List AN),vl=.slice (some ⟨g,0,none⟩) L.length cc/\L.length=n/\AD B 329 u (.slice (some ⟨g,0,none⟩) L.length cc) L/\AD B 329 u vo out/\(out++L).Perm l/\(∀b,Value.blk vo=some b->b≠g)/\EQ w0 u bi bp a c ps (-1+out.length)
theorem zEX{al:OA}{nl cl:Nat}{l:List AN}{d s:Nat}{c:Nat}{w0:World}(hl:AQ w0 (.slice al nl cl) l)(hn:l.length<=100000)(S:EQ w0 w d s a c ps (-1)):
  Sp PP 325 #[.slice al nl cl,PZ d s] w λv w'=>(∃l',l'.Perm l/\AD w.heap.size 329 w' v l')/\Fr (λi=>i=d) w w':=by
 have t:=hl.len;obtain rfl:=t;have a4:=S.lo;have a5:=S.i.lt;have a6:=S.p.lt;refine eN ?_;refine Id (default:AN) rfl rfl (by omega) λg w1 O1 s1 a9=>?_;have Q:=S.up (w':=w1);refine dE (u:=w) (lo:=0) rfl O1 (hl.ext Q.ext) (.inr ⟨g,rfl,by simp⟩) (by simp) (by simp) λw2 O2 f2 s2 _=>?_;have e2:(List.replicate l.length (default:AN)).take 0++l++(List.replicate l.length (default:AN)).drop (0+l.length)=l:=by simp
 rw[e2]at O2;have S2:EQ w0 w2 d s a c ps (-1):=Q.fr f2 (λhd=>by have:=hd.1;omega) (λhd=>by have:=hd.1;omega) (λi hd=>by have:=hd.1;omega);have F2:Fr (λi=>i=d) w w2:=Fr.fr (Fr.st s1.e f2 λi hd=>hd.1);clear O1 Q;refine HG Aa 14 [7] 5 6 (λJ vo u=>(∃n,TY w.heap.size w0 u d s a c ps g l.length l J vo n)/\Fr (λi=>i=d) w u) (λJ _ _=>match J with | .slice _ n _=>n|_=>0) rfl ⟨⟨_,⟨l,[],rfl,rfl,O2,AD.nil _ _ _,.refl _,(λb hb=>(by cases hb)),by simpa using S2⟩⟩,F2⟩ ?_;rintro J vo G u ⟨⟨n,⟨L,out,rfl,b0,OL,OO,K,y,Su⟩⟩,U⟩;have z:=K.length_eq;rw[Qb]at z;have b2:=U.size;refine ite (λKw=>?_) (λb3=>?_)
 ·have f:0<L.length:=by omega
  have A:L≠[]:=by intro h;rw[h]at f;simp at f
  refine AA (oR (n:=(L.length:Int)) (by omega) (by omega) Su) ?_;rintro _ u3 ⟨⟨k,rfl,b5,b6⟩,S3,M⟩;have t:∃p:Nat,k=(p:Int):=⟨k.toNat,by omega⟩;obtain⟨p,rfl⟩:=t;have V:p<L.length:=by omega
  have o:=OL.fr M λb hb _ hd=>by omega
  have W:=OO.fr M λb hb _ hd=>by omega
  have z3:=M.size;refine Bv o.sl (x:=L[p]) (by simp) λb1 o1 A1=>Ai A1 rfl (HS L[p] rfl rfl (by decide) λb4 q n4 _ S4=>?_);have z4:=lz u3 q;refine GB ⟨rfl,rfl⟩ (W.up (w':=q)) S4 (by simp) (by omega) (by simp;omega) λv5 X O5 N Y=>?_
  have b7:g<q.heap.size:=by
   have t:=(o.up (w':=q)).lt A;obtain⟨g',C,_,Z⟩:=t;cases C;exact Z
  have E:∀b,Value.blk v5=some b->b≠g:=λb hb=>by
   rcases Y with h|h
   ·rw[h]at hb;exact y b hb
   ·rw[h]at hb;cases hb;omega
  have a0:=(o.up (w':=q)).fr N λb _ hb hd=>by
   have C:=hd.2.1;cases hb;exact y _ C rfl
  have S5:=(S3.up (w':=q)).fr N (λhd=>by have:=hd.1;omega) (λhd=>by have:=hd.1;omega) (λi hd=>by have:=hd.1;omega);refine dD (λi=>w.heap.size<=i) (Hn 8 0) λF e6=>?_;have r:=a0.up (w':=F);have O6:=O5.up (w':=F);have S6:=S5.up (w':=F);refine Ym (some p) none r (by simp;omega) (by simp) λa7 c7 h7=>?_;refine rF (p+1) (Wv (some (p+1)) none r.sl (by simp;omega) (by simp) λa8 c8 S8=>?_)
  have a3:((L.drop ((some (p+1)).getD 0)).take ((none:Option Nat).getD L.length - (some (p+1)).getD 0))=L.drop (p+1):=by
   simp only[QP,JQ];exact Qj (by simp)
  rw[a3]at S8;simp only[QP,JQ]at S8 h7;refine UV rfl p r S8 h7 (show p+(L.length - p)<=L.length by omega) (show(L.drop (p+1)).length<=L.length - p by rw[QR];omega) λu7 O7 O z7=>⟨O.mono λi _ hd=>hd.1,?_⟩
  have e7:L.take p++L.drop (p+1)++L.drop (p+(L.drop (p+1)).length)=L.eraseIdx p++L.drop (L.length - 1):=by
   rw[Jp,QR,show p+(L.length - (p+1))=L.length - 1 by omega]
  rw[e7]at O7;have H:(L.eraseIdx p).length=L.length - 1:=by rw[Vt,if_pos V]
  have I:=O7.cut (m:=L.length - 1) (by omega) (by intro h;have:=congrArg List.length h;simp at this;omega);obtain⟨Oc,_⟩:=I;rw[VY (by omega),Qj (by omega)]at Oc;refine rF (L.length - 1) (PF (m:=L.length - 1) (by omega) ?_)
  have b8:=O6.fr O λb _ hb hd=>by
   have C:=hd.2.1;cases C;exact E _ hb rfl
  have z6:=lz X F;have b9:=N.size;have c0:=S6.fr O (λhd=>by have:=hd.1;omega) (λhd=>by have:=hd.1;omega) (λi hd=>by have:=hd.1;omega)
  have F7:Fr (λi=>i=d) w u7:=by
   have a1:Fr (λi=>i=d) w q:=(U.trans M).trans (Fr.fr n4.e);have a2:Fr (λi=>i=d) w X:=Fr.st' a1 N λi hd=>hd.1;exact Fr.st' (a2.trans (fE X F)) O λi hd=>hd.1
  have c1:((out++[L[p]])++L.eraseIdx p).Perm l:=by
   refine List.Perm.trans ?_ K;rw[Qp];refine Vp out ?_;rw[Jp];have Z:L=L.take p++L[p]::L.drop (p+1):=by rw[List.getElem_cons_drop,JW]
   exact((XH (a:=L[p]) (l₁:=L.take p) (l₂:=L.drop (p+1))).symm).trans (List.Perm.of_eq Z.symm)
  have c2:(-1:Int)+(out++[L[p]]).length = -1+out.length+1:=by simp;omega
  have fin:TY w.heap.size w0 u7 d s a c ps g l.length l (.slice (some ⟨g,0,none⟩) (L.length - 1) l.length) v5 (L.length - 1):=⟨L.eraseIdx p,out++[L[p]],by rw[H],H,by simp_all⟩;exact⟨⟨⟨_,fin⟩,F7⟩,by show L.length - 1<L.length;omega⟩
 ·have f:L=[]:=Qn (by omega);subst f;rw[QE]at K;exact⟨⟨out,K,OO⟩,U⟩
theorem zJZ{d:OA}{f h c:Nat}{l:List AN}(q:AQ w (.slice d f h) l)(r:l.length<=100000)(s:AQ w (.slice a n c) ps):
  Sp PP 243 #[.slice d f h,.slice a n c] w λv w'=>(∃l',l'.Perm l/\AD w.heap.size 329 w' v l')/\AC w w':=by
 refine eN ?_;refine AA (mI s) ?_;rintro _ w1 ⟨⟨y,z,rfl,S,t,o⟩,p⟩;refine AA (zEX q r S) ?_;rintro v A ⟨⟨l',b,O⟩,x⟩;exact⟨⟨l',b,O.mono p.e.size⟩,⟨Fr.st p.e x λi hi=>by have:=S.lo;omega⟩⟩
def Gq (n:Nat):List Int:=(List.range n).map λi:Nat=>(i:Int)
theorem qX(n:Nat):(Gq n).length=n:=by simp[Gq]
theorem zJ0{c:Nat}(K:n<=1000)(s:AQ w (.slice a m c) ps):
  Sp PP 236 #[.int .i64 (n:Int),.slice a m c] w λv w'=>(∃l' p,v=.tuple #[p,.int .i64 0]/\l'.Perm (Gq n)/\AD w.heap.size 3 w' p l')/\AC w w':=by
 refine eN ?_;refine iF (by omega) (iF (by omega) (Id (default:Int) rfl rfl (by omega) λg w1 t L x=>cN 18 [7] 18 n (λk u=>AD w.heap.size 3 u (.slice (some ⟨g,0,none⟩) n n) (Gq k++List.replicate (n - k) (default:Int))/\AC w u) ⟨by simpa[Gq]using t,stp⟩ ?_));rintro k G u M ⟨O,e⟩;have d:=qX k;refine ite (λAY=>?_) (λb=>?_)
 ·have f:k<n:=by omega
  have b:(Gq k++List.replicate (n - k) (default:Int))[k]? = some default:=by simp_all
  refine Fs rfl O b λN l _ A=>Kk (u:=w) rfl (k:Int) O l (by simp;omega) rfl λQ y q U _=>rA ⟨rfl,f,?_,stp⟩
  have z:(Gq k++List.replicate (n - k) (default:Int)).set k (k:Int)=Gq (k+1)++List.replicate (n - (k+1)) (default:Int):=by
   rw[List.set_append_right _ _ (by omega),d,JN];have C:n - k=(n - (k+1))+1:=by omega
   rw[C,List.replicate_succ,List.set_cons_zero];unfold Gq;rw[Jm,QB,Qp];rfl
  rw[<-z];exact y
 ·have E:k=n:=by omega
  obtain rfl:=E;rw[JN,List.replicate_zero,QE]at O;refine AA (mI (s.up (w':=u))) ?_;rintro _ F ⟨⟨V,W,rfl,S,H,r⟩,I⟩;refine AA (zFq O.sl (by omega) S) ?_;rintro v X ⟨⟨l',o,J⟩,q⟩;have Y:=I.e.size;have Z:=lz w u;exact⟨⟨l',v,rfl,o,J.mono (by omega)⟩,⟨Fr.st (lE w F) q λi hi=>by have:=S.lo;omega⟩⟩
theorem wC{c:Nat}{l:List AN}{g:FuncId}{first cap:List Value}{p:AN->Prop}(h:AQ w (.slice a n c) l)(C:l.length<=1000000)
  (s:∀r u,r∈l->Bp w u->Sp PP g (first++[agg r]++cap).toArray u λv u'=>Ao (p r) v/\AC u u'):
  Sp PP 324 #[.slice a n c,.func (.func g) first.toArray cap.toArray] w λv w'=>((∃(k:Nat) (h:k<l.length),v=.int .i64 (k:Int)/\p l[k]/\∀y∈l.take k,¬p y)\/(v=.int .i64 (-1)/\∀y∈l,¬p y))/\AC w w':=by
 have o:=h.len;obtain rfl:=o;refine eN ?_;refine cN 9 [4,5] 8 l.length (λk u=>(∀y∈l.take k,¬p y)/\AC w u) ⟨by simp,stp⟩ ?_;rintro k E u F ⟨b,e⟩;refine ite (λAY=>?_) (λz=>?_)
 ·have d:k<l.length:=by omega
  refine Bv (h.up (w':=u)) (x:=l[k]) (by simp) λG H A=>Ai A rfl (AA (s l[k] u (Qa _) e.e) ?_);rintro _ I ⟨⟨rfl,q⟩|⟨rfl,q⟩,J⟩
  ·exact⟨.inl ⟨k,d,rfl,q,b⟩,stp⟩
  ·refine rA ⟨rfl,d,λt f=>?_,stp⟩;rw[Cs d]at f;have o:=Qf.1 f;rcases o with f|f
   ·exact b t f
   ·rw[Qc.1 f];exact q
 ·have o:k=l.length:=by omega
  obtain rfl:=o;rw[Qj (Qe _)]at b;exact⟨.inr ⟨rfl,b⟩,stp⟩
theorem rY{c:Nat}{l:List AN}{g:FuncId}{first cap:List Value}{p:AN->Prop}(h:AQ w (.slice a n c) l)(o:l.length<=1000000)
  (q:∀r u,r∈l->Bp w u->Sp PP g (first++[agg r]++cap).toArray u λv u'=>Ao (p r) v/\AC u u'):
  Sp PP 241 #[.slice a n c,.func (.func g) first.toArray cap.toArray] w λv w'=>Ao (∃y∈l,p y) v/\AC w w':=by
 refine eN ?_;refine AA (wC h o q) ?_;rintro _ w1 ⟨⟨k,s,rfl,b,_⟩|⟨rfl,b⟩,e⟩
 ·refine ite (λ_=>⟨.t ⟨_,Qa s,b⟩,e⟩) (λd=>absurd d (by omega))
 ·refine ite (λd=>absurd d (by omega)) (λ_=>⟨.f λ⟨y,x,z⟩=>b y x z,e⟩)
structure KU (p:AN->Prop) [DecidablePred p] (l L:List AN) (i j:Nat):Prop where
 len:L.length=l.length
 ij:i<=j
 jl:j<=l.length
 head:L.take i=(l.take j).filter λx=>!decide (p x)
 tail:L.drop j=l.drop j
theorem KU.skip{p:AN->Prop}[DecidablePred p]{l L:List AN}(h:KU p l L i j)(b:j<l.length)(c:p l[j]):KU p l L i (j+1):=by
 refine⟨h.len,Nat.le_succ_of_le h.ij,b,?_,?_⟩
 ·rw[Cs b,QV,h.head];simp[c]
 ·have:=congrArg (List.drop 1) h.tail;simpa[VZ,Xv]using this
theorem KU.get{p:AN->Prop}[DecidablePred p]{l L:List AN}(h:KU p l L i j)(b:j<l.length):L[j]? = some l[j]:=by
 have:=congrArg (λx=>x[0]?) h.tail;simpa[Vz,b]using this
theorem KU.put{p:AN->Prop}[DecidablePred p]{l L:List AN}(h:KU p l L i j)(b:j<l.length)(c:¬p l[j]):KU p l (L.set i l[j]) (i+1) (j+1):=by
 have hi:=h.ij;have d:=h.len;refine⟨by rw[Jc,h.len],by omega,b,?_,?_⟩
 ·rw[Cs b,QV,<-h.head];have e:([l[j]].filter λx=>!decide (p x))=[l[j]]:=by simp[c]
  rw[e];rw[List.take_add_one,List.take_set_of_le (Qe _),List.getElem?_set_self (by omega)];rfl
 ·rw[List.drop_set_of_lt (by omega)];have:=congrArg (List.drop 1) h.tail;simpa[VZ,Xv]using this
theorem zFv{c:Nat}{l:List AN}{g:FuncId}{first cap:List Value}{p:AN->Prop}[DecidablePred p]{St:World->Prop}(h:AD B 329 w (.slice a n c) l)(hn:l.length<=1000000)(hB:B<=w.heap.size)
  (h0:St w)(q:∀u u',St u->Fr (AV B (.slice a n c)) u u'->St u')(W:∀r u,r∈l->St u->Sp PP g (first++[agg r]++cap).toArray u λv u'=>Ao (p r) v/\AC u u'):
  Sp PP 319 #[.slice a n c,.func (.func g) first.toArray cap.toArray] w λv w'=>AD B 329 w' v (l.filter λx=>!decide (p x))/\Fr (AV B (.slice a n c)) w w':=by
 have s:=h.sl.len;obtain rfl:=s;refine eN ?_;refine AA (wC h.sl hn λr u hr e=>W r u hr (q _ _ h0 e.fr)) ?_;rintro _ w1 ⟨⟨k,z,rfl,F,H⟩|⟨rfl,F⟩,X⟩
 case' inr =>
  refine iT rfl ?_;have e:(l.filter λx=>!decide (p x))=l:=JH.2 λx Y=>by simp[F x Y]
  rw[e];exact⟨h.up,Fr.fr X.e⟩
 refine iF (by omega) (rF (k+1) ?_);have d:l≠[]:=by intro h;rw[h]at z;simp at z
 have s:=h.blk d;obtain⟨Z,a1,rfl,_⟩:=s;have I0:KU p l l k (k+1):=(show KU p l l k k from⟨rfl,Qe _,Yj z,(JH.2 λx Y=>by simp_all).symm,rfl⟩).skip z F
 refine HG Aa 16 [7] 5 6 (λv5 A u=>∃(i j:Nat) (L:List AN),v5=.int .i64 (i:Int)/\A=.int .i64 (j:Int)/\KU p l L i j/\AD B 329 u (.slice (some ⟨Z,0,none⟩) l.length c) L/\Fr (AV B (.slice (some ⟨Z,0,none⟩) l.length c)) w u) (λ_ A _=>l.length+1 - (Go.RowKit.intOf A).toNat) rfl
  ⟨k,k+1,l,rfl,rfl,I0,h.up,Fr.fr X.e⟩ ?_
 rintro v5 A G u ⟨i,j,L,rfl,rfl,I,O,K⟩;have a3:=I.ij;have a4:=I.jl;have f:=I.len;refine ite (λAY=>?_) (λa5=>?_)
 ·have C:j<l.length:=by omega
  refine Fs rfl O (I.get C) λg2 a6 _ A2=>Ai A2 rfl (Ap λb3 u3 n3 z3=>?_);have a8:=n3.b;have a9:B<=u.heap.size:=Qw hB K.size;refine rE z3 (l[j]) λM E f4 _=>?_;have E:Bk M b3 (enc l[j]) 329:=E;have s4:AC u M:=⟨Fr.st (lE u u3) f4 λi hi=>by omega⟩;refine rG E (l[j]) ?_;have o:=K.trans (Fr.fr s4.e);refine AA (W l[j] M (Qa C) (q _ _ h0 o)) ?_;rintro _ N ⟨⟨rfl,Q⟩|⟨rfl,Q⟩,e5⟩
  ·refine rF (j+1) ?_;exact⟨⟨i,j+1,L,rfl,rfl,I.skip C Q,O.up (w':=N),o.trans (Fr.fr e5.e)⟩,by show l.length+1 - ((((j+1:Nat):Int))).toNat<l.length+1 - ((j:Int)).toNat;omega⟩
  ·refine rG E (l[j]) ?_;have S:i<L.length:=by omega
   refine Fs rfl (O.up (w':=N)) (x:=L[i]) (by simp) λg6 U _ A6=>CZ rfl l[j] (O.up (w':=N)) U S rfl λu7 O7 f7 _=>rF (i+1) (rF (j+1) ?_);exact⟨⟨i+1,j+1,_,rfl,rfl,I.put C Q,O7,(o.trans (Fr.fr e5.e)).trans f7⟩,by show l.length+1 - ((((j+1:Nat):Int))).toNat<l.length+1 - ((j:Int)).toNat;omega⟩
 ·have s:j=l.length:=by omega
  obtain rfl:=s;have a0:L≠[]:=by intro h;rw[h]at f;simp at f;exact d (Qn f.symm)
  refine TC (some i) none O (by simp;omega) (by simp) λa7 c7 h7=>?_;simp only[QP,JQ]at h7;refine Pd rfl rfl (Wk (LK:AN) rfl rfl i O h7 (show i+(l.length - i)<=L.length by omega) λu8 O8 f8=>?_);have t:=O8.cut (m:=i) (by omega) (by simp_all);obtain⟨Oc,_⟩:=t;have y:=I.head;rw[Qj (Qe l.length)]at y;rw[Qp,VY (by simp;omega),Xz,Nat.min_self,y]at Oc;have V:i<=c:=by omega
  refine PF V ?_;exact⟨Oc,K.trans f8⟩
theorem oG(x:AN):∀L:List AN,(Fa x L).length<=L.length+1
 |[]=>by simp[Fa]
 |y::r=>by
  have:=oG x r;unfold Fa;split
  ·simp;omega
  ·split<;>simp
theorem sI(l:List AN):(Eb l).length<=l.length:=by
 have b:∀(m L:List AN),(m.foldl (λL x=>Fa x L) L).length<=L.length+m.length:=by
  intro m
  induction m with
  |nil=>intro L;simp
  |cons x r c =>
   intro L;rw[JY,QA];have:=c (Fa x L);have:=oG x L;omega
 have:=b l [];simpa[Eb]using this
def Rk (S:List AN) (m:List (Al×Value)):Prop:=∀k,Au m k=if Ft S k then some (.bool true) else none
theorem Rk.add{S:List AN}{m:List (Al×Value)}(h:Rk S m)(x:AN):Rk (S++[x]) (CW x.key (.bool true) m):=λk=>by
 rw[bA,h k];by_cases e:k=x.key
 ·have:Ft (S++[x]) k=true:=cD.2 ⟨x,by simp,e.symm⟩;rw[if_pos e,if_pos this]
 ·have:Ft (S++[x]) k=Ft S k:=by
   rw[Bool.eq_iff_iff,cD,cD];constructor
   ·rintro⟨y,b,c⟩;have d:=Qf.1 b;rcases d with b|b
    ·exact⟨y,b,c⟩
    ·rw[Qc.1 b]at c;exact absurd c.symm e
   ·rintro⟨y,b,c⟩;exact⟨y,QN _ b,c⟩
  rw[if_neg e,this]
theorem zS{x:AN}{S:List AN}{d e:Nat}{m:List (Al×Value)}(T:Bk w d [.map (some e)] 402)(M:BO PP 327 w e m)(K:Rk S m):
  Sp PP 321 #[agg x,.pointer (some ⟨d,0,none⟩)] w λv w'=>Ao (Ft S x.key=true) v/\AC w w':=by
 refine eN ?_;refine BM λb w1 n1 l=>rX T rfl (rG l x.key ?_);have c:=K x.key;by_cases h:Ft S x.key=true
 ·rw[if_pos h]at c;refine LI (M.up (w':=w1)) x.key rfl (v:=.bool true) (by rw[c];rfl) ?_;exact⟨.t h,stp⟩
 ·rw[if_neg h]at c;refine LI (M.up (w':=w1)) x.key rfl (v:=.bool false) (by rw[c];rfl) ?_;exact⟨.f h,stp⟩
theorem rD{c c2:Nat}{S M:List AN}(G:AQ w (.slice a n c) S)(H:AQ w (.slice a2 n2 c2) M)(U:S.length<=100000)(V:M.length<=1000000):
  Sp PP 238 #[.slice a n c,.slice a2 n2 c2] w λv w'=>AD w.heap.size 329 w' v (Ba S M)/\AC w w':=by
 have d:=G.len;obtain rfl:=d;have d:=H.len;obtain rfl:=d;refine eN ?_;refine SX (kt:=327) (κ:=Al) rfl λh w1 n1 W=>?_;refine Ap λy I n2 J=>?_;have X:=n1.b;have Y:=n1.s;have Z:=n2.b;have a0:=n2.s;refine rS J [.map (some h)] (by simp;rfl) λz A l _=>?_;have A:Bk z y [.map (some h)] 402:=A;have s3:AC w z:=⟨Fr.st (lE w I) l λi hi=>by omega⟩;have M3:BO PP 327 z h ([]:List (Al×Value)):=(W.up (w':=I)).fr l (by omega);clear J l;refine cN 11 [7] 11 S.length (λk u=>∃m,BO PP 327 u h m/\Rk (S.take k) m/\Bk u y [.map (some h)] 402/\AC w u) ⟨[],M3,λk=>rfl,A,s3⟩ ?_;rintro k g u hk ⟨m,C,K,T,su⟩;have a1:=C.lt;have a3:=T.lt;refine ite (λAY=>?_) (λa4=>?_)
 ·have o:k<S.length:=by omega
  refine Bv (G.up (w':=u)) (x:=S[k]) (by simp) λb4 o4 A4=>Ai A4 rfl (Ap λb5 u5 n5 z5=>?_);have a5:=n5.b;have a6:=n5.s;refine rE z5 (S[k]) λq E f6 _=>?_;have E:Bk q b5 (enc S[k]) 341:=E;have s6:AC u q:=⟨Fr.st (lE u u5) f6 λi hi=>by omega⟩;refine rX T rfl (rG E (S[k].key) (Pt (C.up (w':=q)) S[k].key rfl λu7 M7 L _=>?_));have T7:=(T.mv (w:=q)).fr L (by omega);exact rA ⟨rfl,o,_,M7,by rw[Cs o];exact K.add _,T7,⟨Fr.st (lE w q) L λi hi=>by omega⟩⟩
 ·have d:k=S.length:=by omega
  obtain rfl:=d;rw[Qg]at K;refine AA (zHT (H.up (w':=u)) (by omega)) ?_;rintro v N ⟨O,e2⟩;have a7:(Eb M).length<=M.length:=sI M;have d:=O.shape;obtain⟨oa,oc,rfl⟩:=d;refine AA (zFv (g:=321) (first:=[]) (cap:=[.pointer (some ⟨y,0,none⟩)]) (p:=λx=>Ft S x.key=true) (St:=λu=>Bk u y [.map (some h)] 402/\BO PP 327 u h m) O (by omega) e2.e.size ⟨T.mv (w:=N),C.up⟩ (λx x' t f=>⟨t.1.fr f (λhd=>by have:=hd.1;omega),t.2.fr f (λhd=>by have:=hd.1;omega)⟩) (λr x hr t=>zS t.1 t.2 K)) ?_;rintro v u3 ⟨Q,l⟩
  have e3:((Eb M).filter λx=>!decide (Ft S x.key=true))=Ba S M:=by
   unfold Ba;congr 1;funext x;simp
  rw[e3]at Q;have F:=lz w u;exact⟨Q.mono F,⟨Fr.st (lE w N) l λi hi=>by have:=hi.1;omega⟩⟩
end Go.W
namespace Go.Proofs
open Go.Shelf Tryz
def Tryz.sortE_ren:Go.Shelf.Ren:=⟨fun|6=>127|15=>201|14=>200|28=>284|29=>265|20=>276|21=>277|22=>278|23=>279|24=>280|25=>281|26=>282|27=>283|46=>351|47=>352|48=>353|49=>354|50=>355|57=>389|n=>n,fun|22=>33|24=>74|25=>114|3=>3|39=>186|0=>0|53=>277|55=>281|4=>4|46=>375|45=>374|50=>70|5=>5|9=>9|66=>436|70=>440|76=>484|77=>485|n=>n,fun|n=>n⟩
theorem Tryz.sortE:Go.Proofs.SlLaysF0.n6 prog Tryz.sortE_ren:={
 mixed:=by kernel_rfl
 f6:=⟨f127.name,by decide,W.ff func127⟩
 f14:=⟨f200.name,by decide,W.ff func200⟩
 f15:=W.ff func201
 f20:=⟨f276.name,by decide,W.ff func276⟩
 f21:=⟨f277.name,by decide,W.ff func277⟩
 f22:=⟨f278.name,by decide,W.ff func278⟩
 f23:=⟨f279.name,by decide,W.ff func279⟩
 f24:=⟨f280.name,by decide,W.ff func280⟩
 f25:=⟨f281.name,by decide,W.ff func281⟩
 f26:=⟨f282.name,by decide,W.ff func282⟩
 f27:=⟨f283.name,by decide,W.ff func283⟩
 f28:=W.ff func284
 f29:=W.ff func265
 f46:=⟨f351.name,by decide,W.ff func351⟩
 f47:=W.ff func352
 f48:=W.ff func353
 f49:=⟨f354.name,by decide,W.ff func354⟩
 f50:=⟨f355.name,by decide,W.ff func355⟩
 f57:=⟨f389.name,by decide,W.ff func389⟩
 t0:=underlying0
 a0:=isAgg0
 z0:=sizeOf0
 v0:=zeroValue0
 t3:=underlying3
 a3:=isAgg3
 z3:=sizeOf3
 v3:=zeroValue3
 t4:=underlying4
 a4:=isAgg4
 z4:=sizeOf4
 v4:=zeroValue4
 t5:=underlying5
 a5:=isAgg5
 z5:=sizeOf5
 v5:=zeroValue5
 t9:=underlying9
 a9:=isAgg9
 z9:=sizeOf9
 v9:=zeroValue9
 t22:=underlying33
 a22:=isAgg33
 z22:=sizeOf33
 v22:=zeroValue33
 t25:=underlying114
 a25:=isAgg114
 z25:=sizeOf114
 v25:=zeroValue114
 t39:=underlying186
 a39:=isAgg186
 z39:=sizeOf186
 v39:=zeroValue186
 t45:=underlying374
 a45:=isAgg374
 z45:=sizeOf374
 v45:=zeroValue374
 t46:=underlying375
 a46:=isAgg375
 z46:=sizeOf375
 v46:=zeroValue375
 t50:=underlying70
 a50:=isAgg70
 z50:=sizeOf70
 v50:=zeroValue70
 t53:=underlying277
 a53:=isAgg277
 z53:=sizeOf277
 v53:=zeroValue277
 t55:=underlying281
 a55:=isAgg281
 z55:=sizeOf281
 v55:=zeroValue281
 t66:=underlying436
 a66:=isAgg436
 z66:=sizeOf436
 v66:=zeroValue436
 t70:=underlying440
 a70:=isAgg440
 z70:=sizeOf440
 v70:=zeroValue440
 t76:=underlying484
 a76:=isAgg484
 z76:=sizeOf484
 v76:=zeroValue484
 t77:=underlying485
 a77:=isAgg485
 z77:=sizeOf485
 v77:=zeroValue485 }
end Go.Proofs
namespace Go.Proofs
open Go.Shelf Tryz
def Tryz.sortW_ren:Go.Shelf.Ren:=⟨fun|6=>133|15=>201|14=>203|28=>284|29=>265|20=>285|21=>286|22=>287|23=>288|24=>289|25=>290|26=>291|27=>292|46=>356|47=>352|48=>353|49=>357|50=>358|57=>390|n=>n,fun|22=>28|24=>9|25=>107|3=>3|39=>186|0=>0|53=>277|55=>281|4=>4|46=>375|45=>374|50=>70|5=>5|9=>9|66=>436|70=>440|76=>484|77=>485|n=>n,fun|n=>n⟩
theorem Tryz.sortW:Go.Proofs.SlLaysF.n6 prog Tryz.sortW_ren:={
 mixed:=by kernel_rfl
 f6:=⟨f133.name,by decide,W.ff func133⟩
 f14:=⟨f203.name,by decide,W.ff func203⟩
 f15:=W.ff func201
 f20:=⟨f285.name,by decide,W.ff func285⟩
 f21:=⟨f286.name,by decide,W.ff func286⟩
 f22:=⟨f287.name,by decide,W.ff func287⟩
 f23:=⟨f288.name,by decide,W.ff func288⟩
 f24:=⟨f289.name,by decide,W.ff func289⟩
 f25:=⟨f290.name,by decide,W.ff func290⟩
 f26:=⟨f291.name,by decide,W.ff func291⟩
 f27:=⟨f292.name,by decide,W.ff func292⟩
 f28:=W.ff func284
 f29:=W.ff func265
 f46:=⟨f356.name,by decide,W.ff func356⟩
 f47:=W.ff func352
 f48:=W.ff func353
 f49:=⟨f357.name,by decide,W.ff func357⟩
 f50:=⟨f358.name,by decide,W.ff func358⟩
 f57:=⟨f390.name,by decide,W.ff func390⟩
 t0:=underlying0
 a0:=isAgg0
 z0:=sizeOf0
 v0:=zeroValue0
 t3:=underlying3
 a3:=isAgg3
 z3:=sizeOf3
 v3:=zeroValue3
 t4:=underlying4
 a4:=isAgg4
 z4:=sizeOf4
 v4:=zeroValue4
 t5:=underlying5
 a5:=isAgg5
 z5:=sizeOf5
 v5:=zeroValue5
 t9:=underlying9
 a9:=isAgg9
 z9:=sizeOf9
 v9:=zeroValue9
 t22:=underlying28
 a22:=isAgg28
 z22:=sizeOf28
 v22:=zeroValue28
 a24:=isAgg9
 z24:=sizeOf9
 t25:=underlying107
 a25:=isAgg107
 z25:=sizeOf107
 v25:=zeroValue107
 t39:=underlying186
 a39:=isAgg186
 z39:=sizeOf186
 v39:=zeroValue186
 t45:=underlying374
 a45:=isAgg374
 z45:=sizeOf374
 v45:=zeroValue374
 t46:=underlying375
 a46:=isAgg375
 z46:=sizeOf375
 v46:=zeroValue375
 t50:=underlying70
 a50:=isAgg70
 z50:=sizeOf70
 v50:=zeroValue70
 t53:=underlying277
 a53:=isAgg277
 z53:=sizeOf277
 v53:=zeroValue277
 t55:=underlying281
 a55:=isAgg281
 z55:=sizeOf281
 v55:=zeroValue281
 t66:=underlying436
 a66:=isAgg436
 z66:=sizeOf436
 v66:=zeroValue436
 t70:=underlying440
 a70:=isAgg440
 z70:=sizeOf440
 v70:=zeroValue440
 t76:=underlying484
 a76:=isAgg484
 z76:=sizeOf484
 v76:=zeroValue484
 t77:=underlying485
 a77:=isAgg485
 z77:=sizeOf485
 v77:=zeroValue485 }
end Go.Proofs
namespace Go.Proofs
open Go.Shelf Tryz
def Tryz.sortV_ren:Go.Shelf.Ren:=⟨fun|6=>133|15=>201|14=>203|28=>284|29=>265|20=>285|21=>286|22=>287|23=>288|24=>289|25=>290|26=>291|27=>292|46=>356|47=>352|48=>353|49=>357|50=>358|57=>390|n=>n,fun|22=>28|24=>9|25=>107|3=>3|39=>186|0=>0|53=>277|55=>281|4=>4|46=>375|45=>374|50=>70|5=>5|9=>9|66=>436|70=>440|76=>484|77=>485|n=>n,fun|n=>n⟩
theorem Tryz.sortV:Go.Proofs.SlLaysF0.n6 prog Tryz.sortV_ren:={
 mixed:=by kernel_rfl
 f6:=⟨f133.name,by decide,W.ff func133⟩
 f14:=⟨f203.name,by decide,W.ff func203⟩
 f15:=W.ff func201
 f20:=⟨f285.name,by decide,W.ff func285⟩
 f21:=⟨f286.name,by decide,W.ff func286⟩
 f22:=⟨f287.name,by decide,W.ff func287⟩
 f23:=⟨f288.name,by decide,W.ff func288⟩
 f24:=⟨f289.name,by decide,W.ff func289⟩
 f25:=⟨f290.name,by decide,W.ff func290⟩
 f26:=⟨f291.name,by decide,W.ff func291⟩
 f27:=⟨f292.name,by decide,W.ff func292⟩
 f28:=W.ff func284
 f29:=W.ff func265
 f46:=⟨f356.name,by decide,W.ff func356⟩
 f47:=W.ff func352
 f48:=W.ff func353
 f49:=⟨f357.name,by decide,W.ff func357⟩
 f50:=⟨f358.name,by decide,W.ff func358⟩
 f57:=⟨f390.name,by decide,W.ff func390⟩
 t0:=underlying0
 a0:=isAgg0
 z0:=sizeOf0
 v0:=zeroValue0
 t3:=underlying3
 a3:=isAgg3
 z3:=sizeOf3
 v3:=zeroValue3
 t4:=underlying4
 a4:=isAgg4
 z4:=sizeOf4
 v4:=zeroValue4
 t5:=underlying5
 a5:=isAgg5
 z5:=sizeOf5
 v5:=zeroValue5
 t9:=underlying9
 a9:=isAgg9
 z9:=sizeOf9
 v9:=zeroValue9
 t22:=underlying28
 a22:=isAgg28
 z22:=sizeOf28
 v22:=zeroValue28
 t25:=underlying107
 a25:=isAgg107
 z25:=sizeOf107
 v25:=zeroValue107
 t39:=underlying186
 a39:=isAgg186
 z39:=sizeOf186
 v39:=zeroValue186
 t45:=underlying374
 a45:=isAgg374
 z45:=sizeOf374
 v45:=zeroValue374
 t46:=underlying375
 a46:=isAgg375
 z46:=sizeOf375
 v46:=zeroValue375
 t50:=underlying70
 a50:=isAgg70
 z50:=sizeOf70
 v50:=zeroValue70
 t53:=underlying277
 a53:=isAgg277
 z53:=sizeOf277
 v53:=zeroValue277
 t55:=underlying281
 a55:=isAgg281
 z55:=sizeOf281
 v55:=zeroValue281
 t66:=underlying436
 a66:=isAgg436
 z66:=sizeOf436
 v66:=zeroValue436
 t70:=underlying440
 a70:=isAgg440
 z70:=sizeOf440
 v70:=zeroValue440
 t76:=underlying484
 a76:=isAgg484
 z76:=sizeOf484
 v76:=zeroValue484
 t77:=underlying485
 a77:=isAgg485
 z77:=sizeOf485
 v77:=zeroValue485 }
end Go.Proofs
namespace Go.W
open Go Go.Proofs
open AK (enc)
set_option maxRecDepth 10000
variable {B i j k m n n2:Nat} {D R:Nat -> Prop} {P:Program} {T:Ce} {a a' a2:OA} {g:An} {ps:List Int} {u u' w w':World}
theorem zP5:Go.Sort.SWO (ltOf YR):=Lc Dl dN (λx h=>by unfold Dl at h;omega) (λx y z=>My x y z) (λx y z h k=>by unfold Dl at *;omega)
def kC (a b:ByteArray):Int:=Lib.compareBytes a.data.toList b.data.toList
theorem tC(a b:ByteArray):kC a b<0↔Ct a b:=dL _ _
theorem zP7:Go.Sort.SWO (ltOf kC):=Lc Ct tC (λx h=>List.lt_irrefl _ h) (λx y z=>Nk x y z) (λx y z h k=>by
 unfold Ct at *;exact XZ.2 (List.le_trans (XZ.1 k) (XZ.1 h)))
theorem zN3(a b:ByteArray):Ct a b\/a=b\/Ct b a:=by
 unfold Ct;have c:=Xw (a.data.toList<b.data.toList);rcases c with h|h
 ·exact .inl h
 ·have c:=Xw (b.data.toList<a.data.toList);rcases c with d|d
  ·exact .inr (.inr d)
  ·have:=List.le_antisymm (XZ.1 d) (XZ.1 h);refine .inr (.inl ?_);have e:a.data=b.data:=by simp_all
   cases a;cases b;simp_all
theorem uS{c:Nat}{l:List BP}(h:AQ w (.slice a n c) l)(r:l.length<=1000000):Sp PP 126 #[.slice a n c] w λv w'=>AD w.heap.size 74 w' v l/\AC w w':=by
 obtain rfl:=h.len;refine eN ?_;refine LC (λe=>?_) (λe=>?_)
 ·have p:l=[]:=by
   obtain⟨a',s,q,_,d⟩:=h;cases q;rcases d with d|⟨b,o,hb,_⟩
   ·exact d
   ·rw[e]at hb;cases hb
  subst p;exact⟨AD.nil _ _ _,stp⟩
 ·refine LE (α:=BP) [] rfl (vs:=[]) rfl rfl (by decide) λt w1 n1 _=>?_;have x:AC w w1:=⟨n1.ext⟩;refine NI (u:=w) ⟨rfl,rfl⟩ (AD.nil' _ 74 _ _) (h.up (w':=w1)) (by simp;omega) λy z f A C=>?_;rw[Je]at f;exact⟨f,stp⟩
theorem zHx{c:Nat}{l:List ByteArray}(h:AQ w (.slice a n c) l)(r:l.length<=1000000):Sp PP 132 #[.slice a n c] w λv w'=>AD w.heap.size 9 w' v l/\AC w w':=by
 obtain rfl:=h.len;refine eN ?_;refine LC (λe=>?_) (λe=>?_)
 ·have p:l=[]:=by
   obtain⟨a',s,q,_,d⟩:=h;cases q;rcases d with d|⟨b,o,hb,_⟩
   ·exact d
   ·rw[e]at hb;cases hb
  subst p;exact⟨AD.nil _ _ _,stp⟩
 ·refine LE (α:=ByteArray) [] rfl (vs:=[]) rfl rfl (by decide) λt w1 n1 _=>?_;have x:AC w w1:=⟨n1.ext⟩;refine NI (u:=w) ⟨rfl,rfl⟩ (AD.nil' _ 9 _ _) (h.up (w':=w1)) (by simp;omega) λy z f A C=>?_;rw[Je]at f;exact⟨f,stp⟩
open Go
section
variable {α:Type} (lt:α->α->Prop) [DecidableRel lt] [DecidableEq α]
def IK (x:α):List α->List α
 |[]=>[x]
 |y::r=>if x=y then y::r else if lt x y then x::y::r else y::IK x r
def AW (l:List α):List α:=l.foldr (IK lt) []
structure Q1:Prop where
 irr:∀a,¬lt a a
 tr:∀a b c,lt a b->lt b c->lt a c
 tri:∀a b,lt a b\/a=b\/lt b a
variable {lt}
theorem gN(x z:α):∀l,z∈IK lt x l↔z=x\/z∈l
 |[]=>by simp[IK]
 |y::r=>by
  unfold IK;split
  ·rename_i e;subst e;simp only[Ql];constructor
   ·exact λh=>.inr h
   ·rintro(h|h);exact .inl h;exact h
  ·split
   ·simp only[Ql]
   ·simp only[Ql,gN x z r];constructor
    ·rintro(h|h|h);exact .inr (.inl h);exact .inl h;exact .inr (.inr h)
    ·rintro(h|h|h);exact .inr (.inl h);exact .inl h;exact .inr (.inr h)
theorem sC(T:Q1 lt)(x:α):∀{l:List α},l.Pairwise lt->(IK lt x l).Pairwise lt
 |[],_=>by simp[IK]
 |y::r,h=>by
  have o:=h;rw[QM]at h;unfold IK;split
  ·exact o
  ·rename_i f;split
   ·rename_i e;refine QM.2 ⟨λz b=>?_,o⟩;have c:=Ql.1 b;rcases c with rfl|b
    ·exact e
    ·exact T.tr _ _ _ e (h.1 z b)
   ·rename_i e
    have p:lt y x:=by
     have c:=T.tri x y;rcases c with d|d|d
     ·exact absurd d e
     ·exact absurd d f
     ·exact d
    refine QM.2 ⟨λz b=>?_,sC T x h.2⟩;have c:=(gN x z r).1 b;rcases c with rfl|b
    ·exact p
    ·exact h.1 z b
theorem SK(z:α):∀l:List α,z∈AW lt l↔z∈l:=by intro a;induction a<;>simp_all[AW,IK,gN,Ql]
theorem Up(T:Q1 lt):∀l:List α,(AW lt l).Pairwise lt:=by intro a;induction a<;>simp_all[AW,sC]
theorem kF(T:Q1 lt):∀{l m:List α},l.Pairwise lt->m.Pairwise lt->(∀z,z∈l↔z∈m)->l=m
 |[],[],_,_,_=>rfl
 |[],y::m,_,_,h=>absurd ((h y).2 Qs) (by simp)
 |x::l,[],_,_,h=>absurd ((h x).1 Qs) (by simp)
 |x::l,y::m,d,f,h=>by
  rw[QM]at d f
  have e:x=y:=by
   have b:=Ql.1 ((h x).1 Qs);rcases b with e|e
   ·exact e
   ·have b:=Ql.1 ((h y).2 Qs);rcases b with o|o
    ·exact o.symm
    ·exact absurd (T.tr _ _ _ (d.1 y o) (f.1 x e)) (T.irr x)
  subst e;rw[kF T d.2 f.2 λz=>?_];constructor
  ·intro c;have b:=Ql.1 ((h z).1 (QF _ c));rcases b with e|e
   ·subst e;exact absurd (d.1 z c) (T.irr z)
   ·exact e
  ·intro c;have b:=Ql.1 ((h z).2 (QF _ c));rcases b with e|e
   ·subst e;exact absurd (f.1 z c) (T.irr z)
   ·exact e
theorem Wn(T:Q1 lt){l m:List α}(h:m.Pairwise lt)(b:∀z,z∈m↔z∈l):m=AW lt l:=
 kF T h (Up T l) λz=>(b z).trans (SK z l).symm
omit [DecidableRel lt] [DecidableEq α] in
theorem zOn(T:Q1 lt){l:List α}(h:l.Pairwise lt):l.Nodup:=by
 rw[Qx];refine List.Pairwise.imp (R:=lt) (λ{a b} c e=>?_) h;rw[e]at c;exact T.irr b c
theorem RK(T:Q1 lt)(l:List α):(AW lt l).length<=l.length:=by
 induction l with
 |nil=>simp[AW]
 |cons y r b =>
  show(IK lt y (AW lt r)).length<=r.length+1
  have:∀m:List α,(IK lt y m).length<=m.length+1:=by
   intro m
   induction m with
   |nil=>simp[IK]
   |cons z m b=>unfold IK;split;simp;split;simp;simp only[QA];omega
  have:=this (AW lt r);omega
end
instance decE:DecidableRel Dl:=λa b=>by unfold Dl;infer_instance
instance decW:DecidableRel Ct:=λa b=>by unfold Ct;infer_instance
theorem GF:Q1 Dl:=⟨λa h=>by unfold Dl at h;omega,λa b c h k=>by unfold Dl at *;omega,λa b=>by
 unfold Dl;have e:a=b↔a.f=b.f/\a.t=b.t:=by cases a;cases b;simp
 rw[e];omega⟩
theorem WW{a b:ByteArray}(h:a.data.toList=b.data.toList):a=b:=by cases a<;>simp_all[Array.toList_inj]
theorem Ie:Q1 Ct:=⟨λa h=>List.lt_irrefl _ h,λa b c h k=>List.lt_trans h k,λa b=>by
 unfold Ct;have d:=Xw (a.data.toList<b.data.toList);rcases d with h|h
 ·exact .inl h
 ·have d:=List.le_iff_lt_or_eq.1 (XZ.1 h);rcases d with e|e
  ·exact .inr (.inr e)
  ·exact .inr (.inl (WW e.symm))⟩
def CI (g:An):An:=⟨g.n,AW Dl g.es,g.ws.map (AW Ct)⟩
theorem eB(h:DK g):Bb (CI g):=by
 refine uE.2 ⟨⟨h.n1,h.n2,Qw (RK GF _) h.ne,by simp[CI,h.nw],λe f=>h.ed e ((SK e _).1 f),λl b=>?_⟩,Up GF _,λl b=>?_⟩
 ·have c:=Qq.1 b;obtain⟨m,d,rfl⟩:=c;exact⟨Qw (RK Ie _) (h.word m d).1,λs o=>(h.word m d).2 s ((SK s _).1 o)⟩
 ·have c:=Qq.1 b;obtain⟨m,d,rfl⟩:=c;exact Up Ie _
section
variable {α:Type} [AK α] {P:Program} {k:KW} {pn:PW} {w:World}
theorem YH{t e:TypeId}{z:Value}{b:Nat}[f:DQ P t e][o:AX P e z (AK.sz α) b]{c:Nat}{l:List α}(lo:Nat)(h:AQ w (.slice a n c) l)(p:lo<=n)
  (q:k (.slice (if c=lo then a else a.map (·.add (lo*AK.sz α))) (n - lo) (c - lo)) w):AI P (Instr.sliceAt t (.slice a n c) (some (.int .i64 lo)) none none) k pn w:=by
 have d:n<=c:=by obtain⟨a',v,r,s,_⟩:=h;cases r;exact s
 exact AI.of (Sf f o (some lo) none p d w) q
theorem AD.drp{e:TypeId}{c:Nat}{L:List α}(O:AD B e w (.slice a n c) L)(lo:Nat)(h:lo<=n):AQ w (.slice (if c=lo then a else a.map (·.add (lo*AK.sz α))) (n - lo) (c - lo)) (L.drop lo):=by
 have b:=O.sl.len;have:=O.sl.part lo n h (Qe _)
 rwa[Qj (by rw[QR];omega)]at this
end
structure Gy {α:Type} (lt:α->α->Prop) (l L:List α) (k j:Nat):Prop where
 len:L.length=l.length
 kj:k+1<=j
 jl:j<=l.length
 k1:1<=k
 tail:L.drop (j - 1)=l.drop (j - 1)
 ris:(L.take k).Pairwise lt
 mem:∀z,z∈L.take k↔z∈l.take j
 top:∀z∈L.take k,z=l.getD (j - 1) z\/lt z (l.getD (j - 1) z)
section
variable {α:Type} {lt:α->α->Prop} {l L:List α} {k j:Nat}
theorem Gy.get(I:Gy lt l L k j)(d:j<=i+1)(b:i<l.length):L[i]? = some l[i]:=by
 have c:L[i]? = (L.drop (j - 1))[i - (j - 1)]?:=by rw[Vz];congr 1;omega
 rw[c,I.tail,Vz,show j - 1+(i - (j - 1))=i by omega,Qd b]
theorem Gy.first(h:1<=k)(b:k<l.length)(d:(l.take k).Pairwise lt)(e:l[k]=l[k - 1]):Gy lt l l k (k+1):=by
 have o:l[k]∈l.take k:=by rw[e];exact List.mem_take_iff_getElem.2 ⟨k - 1,by omega,rfl⟩
 refine⟨rfl,Qe _,b,h,rfl,d,λz=>?_,λz p=>?_⟩
 ·rw[Cs b,Qf,Qc];exact⟨.inl,λh=>h.elim id λh=>h ▸ o⟩
 ·rw[show k+1 - 1=k by omega,Qk,Qd b,QP,e];have c:=List.mem_take_iff_getElem.1 p;obtain⟨i,hi,rfl⟩:=c;have q:i<k:=by omega
  have c:=QH i (k - 1);rcases c with f|f
  ·right;have:=QX.1 d i (k - 1) (by rw[Qm];omega) (by rw[Qm];omega) f;simpa using this
  ·left;congr 1;omega
theorem Gy.skip(I:Gy lt l L k j)(b:j<l.length)(d:l[j]=l[j - 1]'(by omega)):Gy lt l L k (j+1):=by
 have e:=I.kj;have c:=I.k1;have f:l[j]∈l.take j:=by rw[d];exact List.mem_take_iff_getElem.2 ⟨j - 1,by omega,rfl⟩
 refine⟨I.len,by omega,b,c,?_,I.ris,λz=>?_,λz o=>?_⟩
 ·have:=congrArg (List.drop 1) I.tail;rw[VZ,VZ,show j - 1+1=j by omega]at this;exact this
 ·rw[I.mem,Cs b,Qf,Qc];exact⟨.inl,λh=>h.elim id λh=>h ▸ f⟩
 ·have:=I.top z o;rw[Qk,Qd (by omega:j - 1<l.length),QP]at this;rw[show j+1 - 1=j by omega,Qk,Qd b,QP,d];exact this
theorem Gy.put(T:Q1 lt)(I:Gy lt l L k j)(q:l.Pairwise λa b=>¬lt b a)(d:j<l.length)(r:l[j]≠l[j - 1]'(by omega)):Gy lt l (L.set k l[j]) (k+1) (j+1):=by
 have s:=I.kj;have t:=I.k1;have v:=I.len
 have o:lt (l[j - 1]'(by omega)) l[j]:=by
  have x:=QX.1 q (j - 1) j (by omega) d (by omega);have f:=T.tri (l[j - 1]'(by omega)) l[j];rcases f with h|h|h
  ·exact h
  ·exact absurd h.symm r
  ·exact absurd h x
 have p:∀z∈L.take k,lt z l[j]:=λz c=>by
  have:=I.top z c;rw[Qk,Qd (by omega:j - 1<l.length),QP]at this;rcases this with h|h
  ·rw[h];exact o
  ·exact T.tr _ _ _ h o
 have e:(L.set k l[j]).take (k+1)=L.take k++[l[j]]:=by
  rw[List.take_add_one,List.take_set_of_le (Qe _),List.getElem?_set_self (by omega)];rfl
 refine⟨by rw[Jc,v],by omega,d,by omega,?_,?_,λz=>?_,λz c=>?_⟩
 ·rw[List.drop_set_of_lt (by omega),show j+1 - 1=j by omega];have:=congrArg (List.drop 1) I.tail;rw[VZ,VZ,show j - 1+1=j by omega]at this;exact this
 ·rw[e,VK];exact⟨I.ris,by simp,λa y b hb=>by rw[Qc.1 hb];exact p a y⟩
 ·rw[e,Cs d,Qf,Qf,I.mem]
 ·rw[e]at c;rw[show j+1 - 1=j by omega,Qk,Qd d,QP];have f:=Qf.1 c;rcases f with c|c
  ·exact .inr (p z c)
  ·exact .inl (Qc.1 c)
theorem Gy.fin(I:Gy lt l L k l.length)[DecidableRel lt][DecidableEq α](T:Q1 lt):L.take k=AW lt l:=
 Wn T I.ris λz=>by rw[I.mem,Qj (Qe _)]
end
theorem zGS{c:Nat}{l:List BP}(h:AD B 74 w (.slice a n c) l)(hs:l.Pairwise λa b=>¬Dl b a)(hn:l.length<=1000000)(hB:B<=w.heap.size):
  Sp PP 128 #[.slice a n c] w λv w'=>AD B 74 w' v (AW Dl l)/\Fr (AV B (.slice a n c)) w w':=by
 have f:=h.sl.len;obtain rfl:=f
 have done:∀{u:World} {k:Nat},l.length<=k->(l.take k).Pairwise Dl->Bp w u->AD B 74 u (.slice a l.length c) (AW Dl l)/\Fr (AV B (.slice a l.length c)) w u:=λhk q e=>by
  rw[Qj hk]at q;rw[<-Wn GF q λz=>Iff.rfl];exact⟨h.ext e,Fr.fr e⟩
 refine eN ?_;refine ite (λo=>?_) (λo=>?_)
 ·have:(l.take 1).Pairwise Dl:=by
   match l,o with
   |[],_=>exact .nil
   |[x],_=>simp
   |x::y::r,o=>simp at o;omega
  exact done (k:=1) (by omega) this (Fr.refl _ _)
 refine GV Aa 9 [2,4,5] 3 (λv u=>∃k:Nat,v=.int .i64 (k:Int)/\1<=k/\k<=l.length/\(l.take k).Pairwise Dl/\AC w u) (λv _=>l.length+1 - (Go.RowKit.intOf v).toNat) rfl ⟨1,rfl,Qe _,by omega,by
  match l,o with
  |x::r,_=>simp
  |[],o=>simp at o,stp⟩ ?_
 rintro v g u ⟨k,rfl,S,hk,q,e⟩;refine ite (λAY=>?_) (λa4=>done (k:=k) (by omega) q (lE w u));have d:k<l.length:=by omega
 refine dQ 10 λU e2=>?_;have S2:=h.sl.up (w':=U);refine CL (i:=k) S2 (x:=l[k]) (by simp) λb4 o4 A4 _=>Ch A4 rfl nf (rF (k - 1) (CL S2 (x:=l[k - 1]) (by simp) λb3 o3 A3 _=>Ch A3 rfl nf (eF BP l[k] l[k - 1] (λJ=>?_) (λJ=>?_))))
 case' refine_2 =>
  have p:Dl l[k - 1] l[k]:=by
   have t:=QX.1 hs (k - 1) k (by omega) d (by omega);have f:=GF.tri l[k - 1] l[k];rcases f with A|A|A
   ·exact A
   ·exact absurd A.symm J
   ·exact absurd A t
  refine rA ⟨⟨k+1,rfl,by omega,by omega,?_,stp⟩,?_⟩
  ·rw[Cs d,VK];refine⟨q,by simp,λx hx y hy=>?_⟩;rw[Qc.1 hy];have f:=List.mem_take_iff_getElem.1 hx;obtain⟨i,hi,rfl⟩:=f;have f:=QH i (k - 1);rcases f with h5|h5
   ·have:=QX.1 q i (k - 1) (by rw[Qm];omega) (by rw[Qm];omega) h5;rw[VI,VI]at this;exact GF.tr _ _ _ this p
   ·have:i=k - 1:=by omega
    subst this;exact p
  ·show l.length+1 - (((k:Int)+1)).toNat<l.length+1 - ((k:Int)).toNat;omega
 have I0:=Gy.first (lt:=Dl) S d q J;have C:l≠[]:=by intro h;rw[h]at d;simp at d
 have Oh:=h.up (w':=U);refine YH k Oh.sl (by omega) ?_;have f:∃a2,a2=(if c=k then a else a.map (·.add (k*AK.sz BP))):=⟨_,rfl⟩;obtain⟨a2,E⟩:=f;rw[<-E]
 refine HG Aa 29 [] 3 5 (λv3 V x=>∃(i j:Nat) (L:List BP),v3=.int .i64 (i:Int)/\V=.int .i64 (j:Int)/\Gy Dl l L i (k+j)/\1<=j/\AD B 74 x (.slice a l.length c) L/\Fr (AV B (.slice a l.length c)) w x) (λ_ V _=>l.length+1 - (Go.RowKit.intOf V).toNat) rfl
  ⟨k,1,l,rfl,rfl,I0,Qe _,Oh,fE w U⟩ ?_
 rintro _ _ G x ⟨i,j,L,rfl,rfl,I,a5,O,K⟩;have a6:=I.kj;have a8:=I.jl;have s:=I.len;have a9:=I.k1;have zx:=K.size;refine ite (λa0=>?_) (λa1=>?_)
 ·have M:k+j<l.length:=by omega
  refine dQ 10 λx2 d2=>?_;have N:=O.up (w':=x2);have Q:=N.drp k (by omega);rw[<-E]at Q;refine CL (i:=j) Q (x:=l[k+j]) (by rw[Vz];exact I.get (by omega) M) λb6 o6 A6 _=>Ch A6 rfl nf (rF (j - 1) (CL Q (i:=j - 1) (x:=l[k+j - 1]) (by rw[Vz,show k+(j - 1)=k+j - 1 by omega];exact I.get (by omega) (by omega)) λb7 o7 A7 _=>Ch A7 rfl nf (YQ BP l[k+j] l[k+j - 1] (λt=>?_) (λt=>?_))))
  ·refine Bv Q (i:=j) (x:=l[k+j]) (by rw[Vz];exact I.get (by omega) M) λb8 o8 A8=>Ai A8 rfl ?_;have W:i<L.length:=by omega
   refine Fs rfl N (i:=i) (x:=L[i]) (by simp) λg6 X _ A9=>CZ rfl l[k+j] N X W rfl λx7 O7 f7 _=>rF (i+1) (rF (j+1) ?_);exact⟨⟨i+1,j+1,_,rfl,rfl,I.put GF hs M t,by omega,O7,(K.trans (Fr.fr d2.e)).trans f7⟩,by show l.length+1 - ((((j+1:Nat):Int))).toNat<l.length+1 - ((j:Int)).toNat;omega⟩
  ·refine rF (j+1) ?_;exact⟨⟨i,j+1,L,rfl,rfl,I.skip M t,by omega,N,K.trans (Fr.fr d2.e)⟩,by show l.length+1 - ((((j+1:Nat):Int))).toNat<l.length+1 - ((j:Int)).toNat;omega⟩
 ·have Y:k+j=l.length:=by omega
  rw[Y]at I;have F:=I.fin GF;have a3:L≠[]:=by intro h;rw[h]at s;simp at s;exact C (Qn s.symm)
  refine TC (some i) none O (by simp;omega) (by simp) λa7 c7 h7=>?_;simp only[QP,JQ]at h7;refine Pd rfl rfl (Wk (⟨0,0⟩:BP) rfl rfl i O h7 (show i+(l.length - i)<=L.length by omega) λu8 O8 f8=>?_);have H:=O8.cut (m:=i) (by omega) (by intro h;have:=congrArg List.length h;rw[Qb,Qb,Qm,List.length_replicate,QR,QZ]at this;omega);obtain⟨Oc,ga,rfl⟩:=H;rw[Qp,VY (by simp;omega),Xz,Nat.min_self,F]at Oc;have Z:i<=c:=by obtain⟨_,_,hv,hc,_⟩:=O.sl;injection hv with o J t;omega
  refine PF Z ?_;exact⟨Oc,K.trans f8⟩
theorem zFu{c:Nat}{l:List ByteArray}(h:AD B 9 w (.slice a n c) l)(hs:l.Pairwise λa b=>¬Ct b a)(hn:l.length<=1000000)(hB:B<=w.heap.size):
  Sp PP 134 #[.slice a n c] w λv w'=>AD B 9 w' v (AW Ct l)/\Fr (AV B (.slice a n c)) w w':=by
 have f:=h.sl.len;obtain rfl:=f
 have done:∀{u:World} {k:Nat},l.length<=k->(l.take k).Pairwise Ct->Bp w u->AD B 9 u (.slice a l.length c) (AW Ct l)/\Fr (AV B (.slice a l.length c)) w u:=λhk q e=>by
  rw[Qj hk]at q;rw[<-Wn Ie q λz=>Iff.rfl];exact⟨h.ext e,Fr.fr e⟩
 refine eN ?_;refine ite (λo=>?_) (λo=>?_)
 ·have:(l.take 1).Pairwise Ct:=by
   match l,o with
   |[],_=>exact .nil
   |[x],_=>simp
   |x::y::r,o=>simp at o;omega
  exact done (k:=1) (by omega) this (Fr.refl _ _)
 refine GV Aa 9 [2,4,5] 3 (λv u=>∃k:Nat,v=.int .i64 (k:Int)/\1<=k/\k<=l.length/\(l.take k).Pairwise Ct/\AC w u) (λv _=>l.length+1 - (Go.RowKit.intOf v).toNat) rfl ⟨1,rfl,Qe _,by omega,by
  match l,o with
  |x::r,_=>simp
  |[],o=>simp at o,stp⟩ ?_
 rintro v g u ⟨k,rfl,S,hk,q,e⟩;refine ite (λAY=>?_) (λa4=>done (k:=k) (by omega) q (lE w u));have d:k<l.length:=by omega
 refine dQ 10 λU e2=>?_;have S2:=h.sl.up (w':=U);refine CL (i:=k) S2 (x:=l[k]) (by simp) λb4 o4 A4 _=>AP (A4.cell0 rfl) nf (rF (k - 1) (CL S2 (x:=l[k - 1]) (by simp) λb3 o3 A3 _=>AP (A3.cell0 rfl) nf (fW (λJ=>?_) (λJ=>?_))))
 case' refine_2 =>
  have p:Ct l[k - 1] l[k]:=by
   have t:=QX.1 hs (k - 1) k (by omega) d (by omega);have f:=Ie.tri l[k - 1] l[k];rcases f with A|A|A
   ·exact A
   ·exact absurd A.symm J
   ·exact absurd A t
  refine rA ⟨⟨k+1,rfl,by omega,by omega,?_,stp⟩,?_⟩
  ·rw[Cs d,VK];refine⟨q,by simp,λx hx y hy=>?_⟩;rw[Qc.1 hy];have f:=List.mem_take_iff_getElem.1 hx;obtain⟨i,hi,rfl⟩:=f;have f:=QH i (k - 1);rcases f with h5|h5
   ·have:=QX.1 q i (k - 1) (by rw[Qm];omega) (by rw[Qm];omega) h5;rw[VI,VI]at this;exact Ie.tr _ _ _ this p
   ·have:i=k - 1:=by omega
    subst this;exact p
  ·show l.length+1 - (((k:Int)+1)).toNat<l.length+1 - ((k:Int)).toNat;omega
 have I0:=Gy.first (lt:=Ct) S d q J;have C:l≠[]:=by intro h;rw[h]at d;simp at d
 have Oh:=h.up (w':=U);refine YH k Oh.sl (by omega) ?_;have f:∃a2,a2=(if c=k then a else a.map (·.add (k*AK.sz ByteArray))):=⟨_,rfl⟩;obtain⟨a2,E⟩:=f;rw[<-E]
 refine HG Aa 29 [] 3 5 (λv3 V x=>∃(i j:Nat) (L:List ByteArray),v3=.int .i64 (i:Int)/\V=.int .i64 (j:Int)/\Gy Ct l L i (k+j)/\1<=j/\AD B 9 x (.slice a l.length c) L/\Fr (AV B (.slice a l.length c)) w x) (λ_ V _=>l.length+1 - (Go.RowKit.intOf V).toNat) rfl
  ⟨k,1,l,rfl,rfl,I0,Qe _,Oh,fE w U⟩ ?_
 rintro _ _ G x ⟨i,j,L,rfl,rfl,I,a5,O,K⟩;have a6:=I.kj;have a8:=I.jl;have s:=I.len;have a9:=I.k1;have zx:=K.size;refine ite (λa0=>?_) (λa1=>?_)
 ·have M:k+j<l.length:=by omega
  refine dQ 10 λx2 d2=>?_;have N:=O.up (w':=x2);have Q:=N.drp k (by omega);rw[<-E]at Q;refine CL (i:=j) Q (x:=l[k+j]) (by rw[Vz];exact I.get (by omega) M) λb6 o6 A6 _=>AP (A6.cell0 rfl) nf (rF (j - 1) (CL Q (i:=j - 1) (x:=l[k+j - 1]) (by rw[Vz,show k+(j - 1)=k+j - 1 by omega];exact I.get (by omega) (by omega)) λb7 o7 A7 _=>AP (A7.cell0 rfl) nf (eM (λt=>?_) (λt=>?_))))
  ·refine Bv Q (i:=j) (x:=l[k+j]) (by rw[Vz];exact I.get (by omega) M) λb8 o8 A8=>AF (A8.cell0 rfl) ?_;have W:i<L.length:=by omega
   refine Fs rfl N (i:=i) (x:=L[i]) (by simp) λg6 X _ A9=>CZ rfl l[k+j] N X W rfl λx7 O7 f7 _=>rF (i+1) (rF (j+1) ?_);exact⟨⟨i+1,j+1,_,rfl,rfl,I.put Ie hs M t,by omega,O7,(K.trans (Fr.fr d2.e)).trans f7⟩,by show l.length+1 - ((((j+1:Nat):Int))).toNat<l.length+1 - ((j:Int)).toNat;omega⟩
  ·refine rF (j+1) ?_;exact⟨⟨i,j+1,L,rfl,rfl,I.skip M t,by omega,N,K.trans (Fr.fr d2.e)⟩,by show l.length+1 - ((((j+1:Nat):Int))).toNat<l.length+1 - ((j:Int)).toNat;omega⟩
 ·have Y:k+j=l.length:=by omega
  rw[Y]at I;have F:=I.fin Ie;have a3:L≠[]:=by intro h;rw[h]at s;simp at s;exact C (Qn s.symm)
  refine TC (some i) none O (by simp;omega) (by simp) λa7 c7 h7=>?_;simp only[QP,JQ]at h7;refine Pd rfl rfl (Wk (⟨#[]⟩:ByteArray) rfl rfl i O h7 (show i+(l.length - i)<=L.length by omega) λu8 O8 f8=>?_);have H:=O8.cut (m:=i) (by omega) (by intro h;have:=congrArg List.length h;rw[Qb,Qb,Qm,List.length_replicate,QR,QZ]at this;omega);obtain⟨Oc,ga,rfl⟩:=H;rw[Qp,VY (by simp;omega),Xz,Nat.min_self,F]at Oc;have Z:i<=c:=by obtain⟨_,_,hv,hc,_⟩:=O.sl;injection hv with o J t;omega
  refine PF Z ?_;exact⟨Oc,K.trans f8⟩
theorem gG{c:Nat}{l:List BP}(h:AQ w (.slice a n c) l)(s:l.length<=1000000):
  Sp PP 71 #[.slice a n c,IP 129] w λv w'=>AD w.heap.size 74 w' v (AW Dl l)/\AC w w':=by
 refine eN ?_;refine BM λbo w1 n1 t=>AA (uS (h.up (w':=w1)) s) ?_;rintro v A ⟨C,K⟩;refine rX t rfl (AA (W1 Tryz.sortE (k:=2) (show FZ PP 74 2 from inferInstance) rfl YR zP5 (f:=127) rfl (λx y W=>sQ) C (by omega)) ?_);rintro r d ⟨rfl,l',o,E,p,F⟩;have L:Gl w1 A d:=Mu F;have M:=o.length_eq;have G:=lz w1 d;have H:=p.shape;obtain⟨N,O,rfl⟩:=H;refine AA (zGS p (E.imp λ{a b} h k=>h ((dN _ _).2 k)) (by omega) G) ?_;rintro v I ⟨q,J⟩;have Q:Gl w1 d I:=Mu J;have e:AW Dl l'=AW Dl l:=Wn GF (Up GF _) λz=>(SK z l').trans o.mem_iff;rw[e]at q;exact⟨q.mono (lz w w1),stp⟩
theorem TU{c:Nat}{l:List ByteArray}(h:AQ w (.slice a n c) l)(s:l.length<=1000000):
  Sp PP 73 #[.slice a n c,IP 135] w λv w'=>AD w.heap.size 9 w' v (AW Ct l)/\AC w w':=by
 refine eN ?_;refine BM λbo w1 n1 t=>AA (zHx (h.up (w':=w1)) s) ?_;rintro v A ⟨C,M⟩;refine rX t rfl (AA (zN Tryz.sortW Tryz.sortV (val:=Value.string) (λ_=>rfl) kC zP7 (f:=133) rfl rfl (λx y W=>mB.mono λv w' ⟨E,F⟩=>⟨E,F ▸ Gw.refl _⟩) C (by omega)) ?_);rintro r d ⟨rfl,l',o,G,p,H⟩;have N:Gl w1 A d:=Mu H;have O:=o.length_eq;have I:=lz w1 d;have J:=p.shape;obtain⟨Q,S,rfl⟩:=J;refine AA (zFu p (G.imp λ{a b} h k=>h ((tC _ _).2 k)) (by omega) I) ?_;rintro v K ⟨q,L⟩;have U:Gl w1 d K:=Mu L;have e:AW Ct l'=AW Ct l:=Wn Ie (Up Ie _) λz=>(SK z l').trans o.mem_iff;rw[e]at q;exact⟨q.mono (lz w w1),stp⟩
abbrev lA (g:An) (w:World) (v:Value) (w':World):Prop:=
 (∃x vs,v=.tuple #[agg (x:FY),.int .i64 0]/\Kt w' x (CI g) vs/\AD w.heap.size 74 w' (.slice x.es.a x.es.n x.es.c) (AW Dl g.es)/\x.n=(g.n:Int))/\AC w w'
theorem cY{x:FY}{vs:List SV}(V:Kt w x g vs):Sp PP 44 #[agg x] w λv w'=>(DK g/\lA g w v w')\/(¬DK g/\v=.tuple #[agg Mc,.int .i64 20]/\AC w w'):=by
 have b0:=V.ws.len;have b1:=V.rows.1;refine eN ?_;refine BM λbx w1 n1 B1=>Ap λbz w2 n2 z2=>rG B1 x (AA (eE (V.up (w':=w2))) ?_);rintro _ w3 ⟨⟨rfl,hc⟩|⟨rfl,a9⟩,e3⟩
 case' inr =>
  have Z3:Bk w3 bz (enc Mc) 35:=z2.mv;refine AJ (cs:=enc Mc) rfl (rE Z3 Mc λw4 Z4 f4 _=>?_);have Z4:Bk w4 bz (enc Mc) 35:=Z4;have a4:=n2.lo (u:=w);refine AR (B:=Z4) rfl ?_;exact .inr ⟨a9,rfl,⟨Fr.st (lE w w3) f4 λi hi=>by subst hi;exact a4⟩⟩
 have b3:=hc.n2;have b4:=hc.nw;have Z3:Bk w3 bz (enc Mc) 35:=z2.mv;clear z2;have b5:=n1.b;have b7:=n1.s;have a4:=n2.b;have b8:=n2.s;have b9:=lz w2 w3;refine dT (λi=>w3.heap.size<=i) (oL [0,1,2,3] (.duo 4 (.duo 5 (oL [6,7,8] .nil) 7 (oL [5,6,8] .nil)) 7 (oL [4,5,6,8] .nil))) λw4 e4=>?_;have c0:=e4.e.size;have a5:¬w3.heap.size<=bx:=by have:=(B1.mv (w:=w3)).lt;omega
 refine tX B1 rfl a5 (tX B1 rfl a5 ?_);refine⟨?_,?_⟩
 ·refine AA lD ?_;rintro _ w5 ⟨rfl,e5⟩;refine⟨Fr.fr e5.e,?_⟩;refine⟨?_,?_⟩
  ·have C:∃w6,w6=w5:=⟨_,rfl⟩;obtain⟨w6,a1⟩:=C;subst a1;refine AA (gG (V.es.up (w':=w6)) V.small.1) ?_;rintro v w7 ⟨O7,e7⟩;refine⟨Fr.fr e7.e,?_⟩;have C:∃es,es=AW Dl g.es:=⟨_,rfl⟩;obtain⟨es,N⟩:=C;rw[<-N]at O7;have hl:es.length<=g.es.length:=N ▸ RK GF _;have q7:=O7.shape;obtain⟨L,M,rfl⟩:=q7;have O7:=O7.mono (lz w w6);refine As (cs:=enc (⟨g.n,⟨L,es.length,M⟩,⟨none,0,0⟩⟩:FY)) (by rw[<-V.n];rfl) (Ap λbo w8 n8 N8=>⟨Fr.fr n8.e,?_⟩);have a6:=n8.b;have a7:=lz w4 w7;refine rE N8 (⟨g.n,⟨L,es.length,M⟩,⟨none,0,0⟩⟩:FY) λw9 N9 f9 _=>⟨f9.mono λi _ hi=>by subst hi;omega,?_⟩;have N9:Bk w9 bo [.int .i64 (g.n:Int),.slice L es.length M,.slice none 0 0] 35:=N9;have E:¬bz=bo:=by omega
   have F:∀i,i=bo->w.heap.size<=i:=by omega
   have s9:AC w w9:=⟨Fr.st (lE w w8) f9 F⟩;have O9:=(O7.up (w':=w8)).frc f9 N8;have Z9:=(Z3.mv (w:=w8)).fr f9 E;have B9:=(B1.mv (w:=w8)).fr f9 (by omega);have V9:=(V.up (w':=w9));clear N8 Z3;refine rX B9 rfl ?_
   refine cN 21 [6] 21 vs.length (λk u=>∃U W d,Bn w.heap.size u d ((g.ws.take k).map (AW Ct))/\Bk u bo [.int .i64 (g.n:Int),.slice L es.length M,.slice U d.length W] 35/\AD w.heap.size 28 u (.slice U d.length W) d/\d.length=k/\AD w.heap.size 74 u (.slice L es.length M) es/\Bk u bz (enc Mc) 35/\AC w u)
    ⟨none,0,([]:List SV),⟨rfl,λi h=>absurd h (by simp)⟩,N9,AD.nil _ _ _,rfl,O9,Z9,s9⟩ ?_
   rintro k gf u hk ⟨U,W,d,Ru,O,p,Q,Eu,X,su⟩;refine ite (λAY=>?_) (λa8=>?_)
   ·have z:k<vs.length:=by omega
    have A:k<g.ws.length:=by omega
    refine Bv (V.ws.up (w':=u)) (x:=vs[k]) (by simp) λb2 o2 A2=>AF (A2.cell0 rfl) (dT (λ_=>True) (.one 0 (.one 2 (.duo 1 (oL [3,4,5,6,7,8] .nil) 3 (.duo 1 (oL [4,5,6,7,8] .nil) 4 (.duo 1 (oL [5,6,7,8] .nil) 5 (.lone 1 (oL [6,7,8] .nil))))))) λu1 d1=>?_);refine⟨?_,?_⟩
    ·refine rX (O.mv (w:=u1)) rfl ⟨Fr.refl _ _,?_⟩;refine AA WX ?_;rintro _ G ⟨rfl,d2⟩;refine⟨Fr.mono d2.e λ_ _ _=>trivial,?_⟩;refine AA (TU ((V.rows.up (w':=G)).2 k z A) (V.small.2.2 _ (Qa _))) ?_;rintro v u3 ⟨t,d3⟩;refine⟨Fr.mono d3.e λ_ _ _=>trivial,?_⟩;have t:=t.mono (lz w G);have C:∃l',l'=AW Ct g.ws[k]:=⟨_,rfl⟩;obtain⟨l',r⟩:=C;rw[<-r]at t;have q3:=t.shape;obtain⟨la,y,rfl⟩:=q3;refine bS (⟨la,l'.length,y⟩:SV) λb6 c Y _ Z=>⟨Fr.mono Y.e λ_ _ _=>trivial,?_⟩;have N4:=O.mv (w:=c);refine Ax (u:=w) ⟨rfl,rfl⟩ (p.up (w':=c)) Z (by omega) λv5 u5 H o s5=>⟨Fr.mono o λ_ _ _=>trivial,?_⟩;have q:=N4.fro (p.up (w':=c)) o;have q5:=H.shape;obtain⟨I,J,rfl⟩:=q5;refine rS q [.slice I (d++[(⟨la,l'.length,y⟩:SV)]).length J] (Gs _ _ _) λu6 S f _=>⟨Fr.mono f λ_ _ _=>trivial,?_⟩;have K:=Bn.add (v:=(⟨la,l'.length,y⟩:SV)) (((Ru.up (w':=c)).fro (p.up (w':=c)) o).frc f q) (((t.up (w':=c)).fro (p.up (w':=c)) o).frc f q);have AY:(g.ws.take (k+1)).map (AW Ct)=(g.ws.take k).map (AW Ct)++[l']:=by rw[Cs A,QB,r];rfl
     rw[<-AY]at K;exact rA ⟨rfl,z,I,J,d++[(⟨la,l'.length,y⟩:SV)],K,S,H.frc f q,by simp[Q],((Eu.up (w':=c)).fro (p.up (w':=c)) o).frc f q,((X.mv (w:=c)).fro (p.up (w':=c)) o).fr f E,⟨Fr.st (lE w u5) f F⟩⟩
    refine AA WX ?_;rintro _ G ⟨rfl,d2⟩;refine⟨Fr.mono d2.e λ_ _ _=>trivial,?_⟩;refine⟨?_,?_⟩
    ·refine rX (O.mv (w:=G)) rfl ⟨Fr.refl _ _,?_⟩;refine AA (TU ((V.rows.up (w':=G)).2 k z A) (V.small.2.2 _ (Qa _))) ?_;rintro v u3 ⟨t,d3⟩;refine⟨Fr.mono d3.e λ_ _ _=>trivial,?_⟩;have t:=t.mono (lz w G);have C:∃l',l'=AW Ct g.ws[k]:=⟨_,rfl⟩;obtain⟨l',r⟩:=C;rw[<-r]at t;have q3:=t.shape;obtain⟨la,y,rfl⟩:=q3;refine bS (⟨la,l'.length,y⟩:SV) λb6 c Y _ Z=>⟨Fr.mono Y.e λ_ _ _=>trivial,?_⟩;have N4:=O.mv (w:=c);refine Ax (u:=w) ⟨rfl,rfl⟩ (p.up (w':=c)) Z (by omega) λv5 u5 H o s5=>⟨Fr.mono o λ_ _ _=>trivial,?_⟩;have q:=N4.fro (p.up (w':=c)) o;have q5:=H.shape;obtain⟨I,J,rfl⟩:=q5;refine rS q [.slice I (d++[(⟨la,l'.length,y⟩:SV)]).length J] (Gs _ _ _) λu6 S f _=>⟨Fr.mono f λ_ _ _=>trivial,?_⟩;have K:=Bn.add (v:=(⟨la,l'.length,y⟩:SV)) (((Ru.up (w':=c)).fro (p.up (w':=c)) o).frc f q) (((t.up (w':=c)).fro (p.up (w':=c)) o).frc f q);have AY:(g.ws.take (k+1)).map (AW Ct)=(g.ws.take k).map (AW Ct)++[l']:=by rw[Cs A,QB,r];rfl
     rw[<-AY]at K;exact rA ⟨rfl,z,I,J,d++[(⟨la,l'.length,y⟩:SV)],K,S,H.frc f q,by simp[Q],((Eu.up (w':=c)).fro (p.up (w':=c)) o).frc f q,((X.mv (w:=c)).fro (p.up (w':=c)) o).fr f E,⟨Fr.st (lE w u5) f F⟩⟩
    refine AA (TU ((V.rows.up (w':=G)).2 k z A) (V.small.2.2 _ (Qa _))) ?_;rintro v u3 ⟨t,d3⟩;refine⟨Fr.mono d3.e λ_ _ _=>trivial,?_⟩;have t:=t.mono (lz w G);have C:∃l',l'=AW Ct g.ws[k]:=⟨_,rfl⟩;obtain⟨l',r⟩:=C;rw[<-r]at t;have q3:=t.shape;obtain⟨la,y,rfl⟩:=q3;refine⟨?_,?_⟩
    ·refine rX (O.mv (w:=u3)) rfl ⟨Fr.refl _ _,?_⟩;refine bS (⟨la,l'.length,y⟩:SV) λb6 c Y _ Z=>⟨Fr.mono Y.e λ_ _ _=>trivial,?_⟩;have N4:=O.mv (w:=c);refine Ax (u:=w) ⟨rfl,rfl⟩ (p.up (w':=c)) Z (by omega) λv5 u5 H o s5=>⟨Fr.mono o λ_ _ _=>trivial,?_⟩;have q:=N4.fro (p.up (w':=c)) o;have q5:=H.shape;obtain⟨I,J,rfl⟩:=q5;refine rS q [.slice I (d++[(⟨la,l'.length,y⟩:SV)]).length J] (Gs _ _ _) λu6 S f _=>⟨Fr.mono f λ_ _ _=>trivial,?_⟩;have K:=Bn.add (v:=(⟨la,l'.length,y⟩:SV)) (((Ru.up (w':=c)).fro (p.up (w':=c)) o).frc f q) (((t.up (w':=c)).fro (p.up (w':=c)) o).frc f q);have AY:(g.ws.take (k+1)).map (AW Ct)=(g.ws.take k).map (AW Ct)++[l']:=by rw[Cs A,QB,r];rfl
     rw[<-AY]at K;exact rA ⟨rfl,z,I,J,d++[(⟨la,l'.length,y⟩:SV)],K,S,H.frc f q,by simp[Q],((Eu.up (w':=c)).fro (p.up (w':=c)) o).frc f q,((X.mv (w:=c)).fro (p.up (w':=c)) o).fr f E,⟨Fr.st (lE w u5) f F⟩⟩
    refine bS (⟨la,l'.length,y⟩:SV) λb6 c Y _ Z=>⟨Fr.mono Y.e λ_ _ _=>trivial,?_⟩;refine rX (O.mv (w:=c)) rfl ⟨Fr.refl _ _,?_⟩;have N4:=O.mv (w:=c);refine Ax (u:=w) ⟨rfl,rfl⟩ (p.up (w':=c)) Z (by omega) λv5 u5 H o s5=>⟨Fr.mono o λ_ _ _=>trivial,?_⟩;have q:=N4.fro (p.up (w':=c)) o;have q5:=H.shape;obtain⟨I,J,rfl⟩:=q5;refine rS q [.slice I (d++[(⟨la,l'.length,y⟩:SV)]).length J] (Gs _ _ _) λu6 S f _=>⟨Fr.mono f λ_ _ _=>trivial,?_⟩;have K:=Bn.add (v:=(⟨la,l'.length,y⟩:SV)) (((Ru.up (w':=c)).fro (p.up (w':=c)) o).frc f q) (((t.up (w':=c)).fro (p.up (w':=c)) o).frc f q);have AY:(g.ws.take (k+1)).map (AW Ct)=(g.ws.take k).map (AW Ct)++[l']:=by rw[Cs A,QB,r];rfl
    rw[<-AY]at K;exact rA ⟨rfl,z,I,J,d++[(⟨la,l'.length,y⟩:SV)],K,S,H.frc f q,by simp[Q],((Eu.up (w':=c)).fro (p.up (w':=c)) o).frc f q,((X.mv (w:=c)).fro (p.up (w':=c)) o).fr f E,⟨Fr.st (lE w u5) f F⟩⟩
   ·refine rG O (⟨g.n,⟨L,es.length,M⟩,⟨U,d.length,W⟩⟩:FY) (rE X (⟨g.n,⟨L,es.length,M⟩,⟨U,d.length,W⟩⟩:FY) λG Z2 f2 _=>?_);have Z2:Bk G bz (enc (⟨g.n,⟨L,es.length,M⟩,⟨U,d.length,W⟩⟩:FY)) 35:=Z2;refine AR (B:=Z2) rfl ?_;have a0:k=g.ws.length:=by omega
    rw[a0,Qg]at Ru;have O2:=Eu.frc f2 X
    have Gv:Kt G ⟨g.n,⟨L,es.length,M⟩,⟨U,d.length,W⟩⟩ (CI g) d:=⟨rfl,by have:=O2.sl;rw[N]at this ⊢;exact this,(p.frc f2 X).sl,(Ru.frc f2 X).v,⟨Qw (RK GF _) V.small.1,by omega,λl hl=>by
     have C:=Qq.1 hl;obtain⟨m,hm,rfl⟩:=C
     exact Qw (RK Ie _) (V.small.2.2 m hm)⟩,λl hl s hs=>by
     have C:=Qq.1 hl;obtain⟨m,hm,rfl⟩:=C;exact V.words m hm s ((SK s _).1 hs)⟩
    exact .inl ⟨hc,⟨⟨g.n,⟨L,es.length,M⟩,⟨U,d.length,W⟩⟩,d,rfl,Gv,by rw[N]at O2 ⊢;exact O2,rfl⟩,⟨Fr.st su.e f2 λi hi=>by subst hi;omega⟩⟩
  ·refine Ap λbo w6 n6 S=>⟨Fr.fr n6.e,?_⟩;have a6:=n6.b;have a7:=lz w4 w5;refine AA (gG (V.es.up (w':=w6)) V.small.1) ?_;rintro v w7 ⟨O7,e7⟩;refine⟨Fr.fr e7.e,?_⟩;have C:∃es,es=AW Dl g.es:=⟨_,rfl⟩;obtain⟨es,N⟩:=C;rw[<-N]at O7;have hl:es.length<=g.es.length:=N ▸ RK GF _;have q7:=O7.shape;obtain⟨L,M,rfl⟩:=q7;have O7:=O7.mono (lz w w6);refine As (cs:=enc (⟨g.n,⟨L,es.length,M⟩,⟨none,0,0⟩⟩:FY)) (by rw[<-V.n];rfl) ?_;have N8:=S.mv (w:=w7);have C:∃w8,w8=w7:=⟨_,rfl⟩;obtain⟨w8,a3⟩:=C;subst a3;refine rE N8 (⟨g.n,⟨L,es.length,M⟩,⟨none,0,0⟩⟩:FY) λw9 N9 f9 _=>⟨f9.mono λi _ hi=>by subst hi;omega,?_⟩;have N9:Bk w9 bo [.int .i64 (g.n:Int),.slice L es.length M,.slice none 0 0] 35:=N9;have E:¬bz=bo:=by omega
   have F:∀i,i=bo->w.heap.size<=i:=by omega
   have s9:AC w w9:=⟨Fr.st (lE w w8) f9 F⟩;have O9:=(O7.up (w':=w8)).frc f9 N8;have Z9:=(Z3.mv (w:=w8)).fr f9 E;have B9:=(B1.mv (w:=w8)).fr f9 (by omega);have V9:=(V.up (w':=w9));clear N8 Z3;refine rX B9 rfl ?_
   refine cN 21 [6] 21 vs.length (λk u=>∃U W d,Bn w.heap.size u d ((g.ws.take k).map (AW Ct))/\Bk u bo [.int .i64 (g.n:Int),.slice L es.length M,.slice U d.length W] 35/\AD w.heap.size 28 u (.slice U d.length W) d/\d.length=k/\AD w.heap.size 74 u (.slice L es.length M) es/\Bk u bz (enc Mc) 35/\AC w u)
    ⟨none,0,([]:List SV),⟨rfl,λi h=>absurd h (by simp)⟩,N9,AD.nil _ _ _,rfl,O9,Z9,s9⟩ ?_
   rintro k gf u hk ⟨U,W,d,Ru,O,p,Q,Eu,X,su⟩;refine ite (λAY=>?_) (λa8=>?_)
   ·have z:k<vs.length:=by omega
    have A:k<g.ws.length:=by omega
    refine Bv (V.ws.up (w':=u)) (x:=vs[k]) (by simp) λb2 o2 A2=>AF (A2.cell0 rfl) (dT (λ_=>True) (.one 0 (.one 2 (.duo 1 (oL [3,4,5,6,7,8] .nil) 3 (.duo 1 (oL [4,5,6,7,8] .nil) 4 (.duo 1 (oL [5,6,7,8] .nil) 5 (.lone 1 (oL [6,7,8] .nil))))))) λu1 d1=>?_);refine⟨?_,?_⟩
    ·refine rX (O.mv (w:=u1)) rfl ⟨Fr.refl _ _,?_⟩;refine AA WX ?_;rintro _ G ⟨rfl,d2⟩;refine⟨Fr.mono d2.e λ_ _ _=>trivial,?_⟩;refine AA (TU ((V.rows.up (w':=G)).2 k z A) (V.small.2.2 _ (Qa _))) ?_;rintro v u3 ⟨t,d3⟩;refine⟨Fr.mono d3.e λ_ _ _=>trivial,?_⟩;have t:=t.mono (lz w G);have C:∃l',l'=AW Ct g.ws[k]:=⟨_,rfl⟩;obtain⟨l',r⟩:=C;rw[<-r]at t;have q3:=t.shape;obtain⟨la,y,rfl⟩:=q3;refine bS (⟨la,l'.length,y⟩:SV) λb6 c Y _ Z=>⟨Fr.mono Y.e λ_ _ _=>trivial,?_⟩;have N4:=O.mv (w:=c);refine Ax (u:=w) ⟨rfl,rfl⟩ (p.up (w':=c)) Z (by omega) λv5 u5 H o s5=>⟨Fr.mono o λ_ _ _=>trivial,?_⟩;have q:=N4.fro (p.up (w':=c)) o;have q5:=H.shape;obtain⟨I,J,rfl⟩:=q5;refine rS q [.slice I (d++[(⟨la,l'.length,y⟩:SV)]).length J] (Gs _ _ _) λu6 S f _=>⟨Fr.mono f λ_ _ _=>trivial,?_⟩;have K:=Bn.add (v:=(⟨la,l'.length,y⟩:SV)) (((Ru.up (w':=c)).fro (p.up (w':=c)) o).frc f q) (((t.up (w':=c)).fro (p.up (w':=c)) o).frc f q);have AY:(g.ws.take (k+1)).map (AW Ct)=(g.ws.take k).map (AW Ct)++[l']:=by rw[Cs A,QB,r];rfl
     rw[<-AY]at K;exact rA ⟨rfl,z,I,J,d++[(⟨la,l'.length,y⟩:SV)],K,S,H.frc f q,by simp[Q],((Eu.up (w':=c)).fro (p.up (w':=c)) o).frc f q,((X.mv (w:=c)).fro (p.up (w':=c)) o).fr f E,⟨Fr.st (lE w u5) f F⟩⟩
    refine AA WX ?_;rintro _ G ⟨rfl,d2⟩;refine⟨Fr.mono d2.e λ_ _ _=>trivial,?_⟩;refine⟨?_,?_⟩
    ·refine rX (O.mv (w:=G)) rfl ⟨Fr.refl _ _,?_⟩;refine AA (TU ((V.rows.up (w':=G)).2 k z A) (V.small.2.2 _ (Qa _))) ?_;rintro v u3 ⟨t,d3⟩;refine⟨Fr.mono d3.e λ_ _ _=>trivial,?_⟩;have t:=t.mono (lz w G);have C:∃l',l'=AW Ct g.ws[k]:=⟨_,rfl⟩;obtain⟨l',r⟩:=C;rw[<-r]at t;have q3:=t.shape;obtain⟨la,y,rfl⟩:=q3;refine bS (⟨la,l'.length,y⟩:SV) λb6 c Y _ Z=>⟨Fr.mono Y.e λ_ _ _=>trivial,?_⟩;have N4:=O.mv (w:=c);refine Ax (u:=w) ⟨rfl,rfl⟩ (p.up (w':=c)) Z (by omega) λv5 u5 H o s5=>⟨Fr.mono o λ_ _ _=>trivial,?_⟩;have q:=N4.fro (p.up (w':=c)) o;have q5:=H.shape;obtain⟨I,J,rfl⟩:=q5;refine rS q [.slice I (d++[(⟨la,l'.length,y⟩:SV)]).length J] (Gs _ _ _) λu6 S f _=>⟨Fr.mono f λ_ _ _=>trivial,?_⟩;have K:=Bn.add (v:=(⟨la,l'.length,y⟩:SV)) (((Ru.up (w':=c)).fro (p.up (w':=c)) o).frc f q) (((t.up (w':=c)).fro (p.up (w':=c)) o).frc f q);have AY:(g.ws.take (k+1)).map (AW Ct)=(g.ws.take k).map (AW Ct)++[l']:=by rw[Cs A,QB,r];rfl
     rw[<-AY]at K;exact rA ⟨rfl,z,I,J,d++[(⟨la,l'.length,y⟩:SV)],K,S,H.frc f q,by simp[Q],((Eu.up (w':=c)).fro (p.up (w':=c)) o).frc f q,((X.mv (w:=c)).fro (p.up (w':=c)) o).fr f E,⟨Fr.st (lE w u5) f F⟩⟩
    refine AA (TU ((V.rows.up (w':=G)).2 k z A) (V.small.2.2 _ (Qa _))) ?_;rintro v u3 ⟨t,d3⟩;refine⟨Fr.mono d3.e λ_ _ _=>trivial,?_⟩;have t:=t.mono (lz w G);have C:∃l',l'=AW Ct g.ws[k]:=⟨_,rfl⟩;obtain⟨l',r⟩:=C;rw[<-r]at t;have q3:=t.shape;obtain⟨la,y,rfl⟩:=q3;refine⟨?_,?_⟩
    ·refine rX (O.mv (w:=u3)) rfl ⟨Fr.refl _ _,?_⟩;refine bS (⟨la,l'.length,y⟩:SV) λb6 c Y _ Z=>⟨Fr.mono Y.e λ_ _ _=>trivial,?_⟩;have N4:=O.mv (w:=c);refine Ax (u:=w) ⟨rfl,rfl⟩ (p.up (w':=c)) Z (by omega) λv5 u5 H o s5=>⟨Fr.mono o λ_ _ _=>trivial,?_⟩;have q:=N4.fro (p.up (w':=c)) o;have q5:=H.shape;obtain⟨I,J,rfl⟩:=q5;refine rS q [.slice I (d++[(⟨la,l'.length,y⟩:SV)]).length J] (Gs _ _ _) λu6 S f _=>⟨Fr.mono f λ_ _ _=>trivial,?_⟩;have K:=Bn.add (v:=(⟨la,l'.length,y⟩:SV)) (((Ru.up (w':=c)).fro (p.up (w':=c)) o).frc f q) (((t.up (w':=c)).fro (p.up (w':=c)) o).frc f q);have AY:(g.ws.take (k+1)).map (AW Ct)=(g.ws.take k).map (AW Ct)++[l']:=by rw[Cs A,QB,r];rfl
     rw[<-AY]at K;exact rA ⟨rfl,z,I,J,d++[(⟨la,l'.length,y⟩:SV)],K,S,H.frc f q,by simp[Q],((Eu.up (w':=c)).fro (p.up (w':=c)) o).frc f q,((X.mv (w:=c)).fro (p.up (w':=c)) o).fr f E,⟨Fr.st (lE w u5) f F⟩⟩
    refine bS (⟨la,l'.length,y⟩:SV) λb6 c Y _ Z=>⟨Fr.mono Y.e λ_ _ _=>trivial,?_⟩;refine rX (O.mv (w:=c)) rfl ⟨Fr.refl _ _,?_⟩;have N4:=O.mv (w:=c);refine Ax (u:=w) ⟨rfl,rfl⟩ (p.up (w':=c)) Z (by omega) λv5 u5 H o s5=>⟨Fr.mono o λ_ _ _=>trivial,?_⟩;have q:=N4.fro (p.up (w':=c)) o;have q5:=H.shape;obtain⟨I,J,rfl⟩:=q5;refine rS q [.slice I (d++[(⟨la,l'.length,y⟩:SV)]).length J] (Gs _ _ _) λu6 S f _=>⟨Fr.mono f λ_ _ _=>trivial,?_⟩;have K:=Bn.add (v:=(⟨la,l'.length,y⟩:SV)) (((Ru.up (w':=c)).fro (p.up (w':=c)) o).frc f q) (((t.up (w':=c)).fro (p.up (w':=c)) o).frc f q);have AY:(g.ws.take (k+1)).map (AW Ct)=(g.ws.take k).map (AW Ct)++[l']:=by rw[Cs A,QB,r];rfl
    rw[<-AY]at K;exact rA ⟨rfl,z,I,J,d++[(⟨la,l'.length,y⟩:SV)],K,S,H.frc f q,by simp[Q],((Eu.up (w':=c)).fro (p.up (w':=c)) o).frc f q,((X.mv (w:=c)).fro (p.up (w':=c)) o).fr f E,⟨Fr.st (lE w u5) f F⟩⟩
   ·refine rG O (⟨g.n,⟨L,es.length,M⟩,⟨U,d.length,W⟩⟩:FY) (rE X (⟨g.n,⟨L,es.length,M⟩,⟨U,d.length,W⟩⟩:FY) λG Z2 f2 _=>?_);have Z2:Bk G bz (enc (⟨g.n,⟨L,es.length,M⟩,⟨U,d.length,W⟩⟩:FY)) 35:=Z2;refine AR (B:=Z2) rfl ?_;have a0:k=g.ws.length:=by omega
    rw[a0,Qg]at Ru;have O2:=Eu.frc f2 X
    have Gv:Kt G ⟨g.n,⟨L,es.length,M⟩,⟨U,d.length,W⟩⟩ (CI g) d:=⟨rfl,by have:=O2.sl;rw[N]at this ⊢;exact this,(p.frc f2 X).sl,(Ru.frc f2 X).v,⟨Qw (RK GF _) V.small.1,by omega,λl hl=>by
     have C:=Qq.1 hl;obtain⟨m,hm,rfl⟩:=C
     exact Qw (RK Ie _) (V.small.2.2 m hm)⟩,λl hl s hs=>by
     have C:=Qq.1 hl;obtain⟨m,hm,rfl⟩:=C;exact V.words m hm s ((SK s _).1 hs)⟩
    exact .inl ⟨hc,⟨⟨g.n,⟨L,es.length,M⟩,⟨U,d.length,W⟩⟩,d,rfl,Gv,by rw[N]at O2 ⊢;exact O2,rfl⟩,⟨Fr.st su.e f2 λi hi=>by subst hi;omega⟩⟩
 ·refine Ap λbo c1 n6 S=>⟨Fr.fr n6.e,?_⟩;have a6:=n6.b;have a7:=e4.e.size;refine AA lD ?_;rintro _ w5 ⟨rfl,e5⟩;refine⟨Fr.fr e5.e,?_⟩;have C:∃w6,w6=w5:=⟨_,rfl⟩;obtain⟨w6,a1⟩:=C;subst a1;refine AA (gG (V.es.up (w':=w6)) V.small.1) ?_;rintro v w7 ⟨O7,e7⟩;refine⟨Fr.fr e7.e,?_⟩;have C:∃es,es=AW Dl g.es:=⟨_,rfl⟩;obtain⟨es,N⟩:=C;rw[<-N]at O7;have hl:es.length<=g.es.length:=N ▸ RK GF _;have q7:=O7.shape;obtain⟨L,M,rfl⟩:=q7;have O7:=O7.mono (lz w w6);refine As (cs:=enc (⟨g.n,⟨L,es.length,M⟩,⟨none,0,0⟩⟩:FY)) (by rw[<-V.n];rfl) ?_;have N8:=S.mv (w:=w7);have C:∃w8,w8=w7:=⟨_,rfl⟩;obtain⟨w8,a3⟩:=C;subst a3;refine rE N8 (⟨g.n,⟨L,es.length,M⟩,⟨none,0,0⟩⟩:FY) λw9 N9 f9 _=>⟨f9.mono λi _ hi=>by subst hi;omega,?_⟩;have N9:Bk w9 bo [.int .i64 (g.n:Int),.slice L es.length M,.slice none 0 0] 35:=N9;have E:¬bz=bo:=by omega
  have F:∀i,i=bo->w.heap.size<=i:=by omega
  have s9:AC w w9:=⟨Fr.st (lE w w8) f9 F⟩;have O9:=(O7.up (w':=w8)).frc f9 N8;have Z9:=(Z3.mv (w:=w8)).fr f9 E;have B9:=(B1.mv (w:=w8)).fr f9 (by omega);have V9:=(V.up (w':=w9));clear N8 Z3;refine rX B9 rfl ?_
  refine cN 21 [6] 21 vs.length (λk u=>∃U W d,Bn w.heap.size u d ((g.ws.take k).map (AW Ct))/\Bk u bo [.int .i64 (g.n:Int),.slice L es.length M,.slice U d.length W] 35/\AD w.heap.size 28 u (.slice U d.length W) d/\d.length=k/\AD w.heap.size 74 u (.slice L es.length M) es/\Bk u bz (enc Mc) 35/\AC w u)
   ⟨none,0,([]:List SV),⟨rfl,λi h=>absurd h (by simp)⟩,N9,AD.nil _ _ _,rfl,O9,Z9,s9⟩ ?_
  rintro k gf u hk ⟨U,W,d,Ru,O,p,Q,Eu,X,su⟩;refine ite (λAY=>?_) (λa8=>?_)
  ·have z:k<vs.length:=by omega
   have A:k<g.ws.length:=by omega
   refine Bv (V.ws.up (w':=u)) (x:=vs[k]) (by simp) λb2 o2 A2=>AF (A2.cell0 rfl) (dT (λ_=>True) (.one 0 (.one 2 (.duo 1 (oL [3,4,5,6,7,8] .nil) 3 (.duo 1 (oL [4,5,6,7,8] .nil) 4 (.duo 1 (oL [5,6,7,8] .nil) 5 (.lone 1 (oL [6,7,8] .nil))))))) λu1 d1=>?_);refine⟨?_,?_⟩
   ·refine rX (O.mv (w:=u1)) rfl ⟨Fr.refl _ _,?_⟩;refine AA WX ?_;rintro _ G ⟨rfl,d2⟩;refine⟨Fr.mono d2.e λ_ _ _=>trivial,?_⟩;refine AA (TU ((V.rows.up (w':=G)).2 k z A) (V.small.2.2 _ (Qa _))) ?_;rintro v u3 ⟨t,d3⟩;refine⟨Fr.mono d3.e λ_ _ _=>trivial,?_⟩;have t:=t.mono (lz w G);have C:∃l',l'=AW Ct g.ws[k]:=⟨_,rfl⟩;obtain⟨l',r⟩:=C;rw[<-r]at t;have q3:=t.shape;obtain⟨la,y,rfl⟩:=q3;refine bS (⟨la,l'.length,y⟩:SV) λb6 c Y _ Z=>⟨Fr.mono Y.e λ_ _ _=>trivial,?_⟩;have N4:=O.mv (w:=c);refine Ax (u:=w) ⟨rfl,rfl⟩ (p.up (w':=c)) Z (by omega) λv5 u5 H o s5=>⟨Fr.mono o λ_ _ _=>trivial,?_⟩;have q:=N4.fro (p.up (w':=c)) o;have q5:=H.shape;obtain⟨I,J,rfl⟩:=q5;refine rS q [.slice I (d++[(⟨la,l'.length,y⟩:SV)]).length J] (Gs _ _ _) λu6 S f _=>⟨Fr.mono f λ_ _ _=>trivial,?_⟩;have K:=Bn.add (v:=(⟨la,l'.length,y⟩:SV)) (((Ru.up (w':=c)).fro (p.up (w':=c)) o).frc f q) (((t.up (w':=c)).fro (p.up (w':=c)) o).frc f q);have AY:(g.ws.take (k+1)).map (AW Ct)=(g.ws.take k).map (AW Ct)++[l']:=by rw[Cs A,QB,r];rfl
    rw[<-AY]at K;exact rA ⟨rfl,z,I,J,d++[(⟨la,l'.length,y⟩:SV)],K,S,H.frc f q,by simp[Q],((Eu.up (w':=c)).fro (p.up (w':=c)) o).frc f q,((X.mv (w:=c)).fro (p.up (w':=c)) o).fr f E,⟨Fr.st (lE w u5) f F⟩⟩
   refine AA WX ?_;rintro _ G ⟨rfl,d2⟩;refine⟨Fr.mono d2.e λ_ _ _=>trivial,?_⟩;refine⟨?_,?_⟩
   ·refine rX (O.mv (w:=G)) rfl ⟨Fr.refl _ _,?_⟩;refine AA (TU ((V.rows.up (w':=G)).2 k z A) (V.small.2.2 _ (Qa _))) ?_;rintro v u3 ⟨t,d3⟩;refine⟨Fr.mono d3.e λ_ _ _=>trivial,?_⟩;have t:=t.mono (lz w G);have C:∃l',l'=AW Ct g.ws[k]:=⟨_,rfl⟩;obtain⟨l',r⟩:=C;rw[<-r]at t;have q3:=t.shape;obtain⟨la,y,rfl⟩:=q3;refine bS (⟨la,l'.length,y⟩:SV) λb6 c Y _ Z=>⟨Fr.mono Y.e λ_ _ _=>trivial,?_⟩;have N4:=O.mv (w:=c);refine Ax (u:=w) ⟨rfl,rfl⟩ (p.up (w':=c)) Z (by omega) λv5 u5 H o s5=>⟨Fr.mono o λ_ _ _=>trivial,?_⟩;have q:=N4.fro (p.up (w':=c)) o;have q5:=H.shape;obtain⟨I,J,rfl⟩:=q5;refine rS q [.slice I (d++[(⟨la,l'.length,y⟩:SV)]).length J] (Gs _ _ _) λu6 S f _=>⟨Fr.mono f λ_ _ _=>trivial,?_⟩;have K:=Bn.add (v:=(⟨la,l'.length,y⟩:SV)) (((Ru.up (w':=c)).fro (p.up (w':=c)) o).frc f q) (((t.up (w':=c)).fro (p.up (w':=c)) o).frc f q);have AY:(g.ws.take (k+1)).map (AW Ct)=(g.ws.take k).map (AW Ct)++[l']:=by rw[Cs A,QB,r];rfl
    rw[<-AY]at K;exact rA ⟨rfl,z,I,J,d++[(⟨la,l'.length,y⟩:SV)],K,S,H.frc f q,by simp[Q],((Eu.up (w':=c)).fro (p.up (w':=c)) o).frc f q,((X.mv (w:=c)).fro (p.up (w':=c)) o).fr f E,⟨Fr.st (lE w u5) f F⟩⟩
   refine AA (TU ((V.rows.up (w':=G)).2 k z A) (V.small.2.2 _ (Qa _))) ?_;rintro v u3 ⟨t,d3⟩;refine⟨Fr.mono d3.e λ_ _ _=>trivial,?_⟩;have t:=t.mono (lz w G);have C:∃l',l'=AW Ct g.ws[k]:=⟨_,rfl⟩;obtain⟨l',r⟩:=C;rw[<-r]at t;have q3:=t.shape;obtain⟨la,y,rfl⟩:=q3;refine⟨?_,?_⟩
   ·refine rX (O.mv (w:=u3)) rfl ⟨Fr.refl _ _,?_⟩;refine bS (⟨la,l'.length,y⟩:SV) λb6 c Y _ Z=>⟨Fr.mono Y.e λ_ _ _=>trivial,?_⟩;have N4:=O.mv (w:=c);refine Ax (u:=w) ⟨rfl,rfl⟩ (p.up (w':=c)) Z (by omega) λv5 u5 H o s5=>⟨Fr.mono o λ_ _ _=>trivial,?_⟩;have q:=N4.fro (p.up (w':=c)) o;have q5:=H.shape;obtain⟨I,J,rfl⟩:=q5;refine rS q [.slice I (d++[(⟨la,l'.length,y⟩:SV)]).length J] (Gs _ _ _) λu6 S f _=>⟨Fr.mono f λ_ _ _=>trivial,?_⟩;have K:=Bn.add (v:=(⟨la,l'.length,y⟩:SV)) (((Ru.up (w':=c)).fro (p.up (w':=c)) o).frc f q) (((t.up (w':=c)).fro (p.up (w':=c)) o).frc f q);have AY:(g.ws.take (k+1)).map (AW Ct)=(g.ws.take k).map (AW Ct)++[l']:=by rw[Cs A,QB,r];rfl
    rw[<-AY]at K;exact rA ⟨rfl,z,I,J,d++[(⟨la,l'.length,y⟩:SV)],K,S,H.frc f q,by simp[Q],((Eu.up (w':=c)).fro (p.up (w':=c)) o).frc f q,((X.mv (w:=c)).fro (p.up (w':=c)) o).fr f E,⟨Fr.st (lE w u5) f F⟩⟩
   refine bS (⟨la,l'.length,y⟩:SV) λb6 c Y _ Z=>⟨Fr.mono Y.e λ_ _ _=>trivial,?_⟩;refine rX (O.mv (w:=c)) rfl ⟨Fr.refl _ _,?_⟩;have N4:=O.mv (w:=c);refine Ax (u:=w) ⟨rfl,rfl⟩ (p.up (w':=c)) Z (by omega) λv5 u5 H o s5=>⟨Fr.mono o λ_ _ _=>trivial,?_⟩;have q:=N4.fro (p.up (w':=c)) o;have q5:=H.shape;obtain⟨I,J,rfl⟩:=q5;refine rS q [.slice I (d++[(⟨la,l'.length,y⟩:SV)]).length J] (Gs _ _ _) λu6 S f _=>⟨Fr.mono f λ_ _ _=>trivial,?_⟩;have K:=Bn.add (v:=(⟨la,l'.length,y⟩:SV)) (((Ru.up (w':=c)).fro (p.up (w':=c)) o).frc f q) (((t.up (w':=c)).fro (p.up (w':=c)) o).frc f q);have AY:(g.ws.take (k+1)).map (AW Ct)=(g.ws.take k).map (AW Ct)++[l']:=by rw[Cs A,QB,r];rfl
   rw[<-AY]at K;exact rA ⟨rfl,z,I,J,d++[(⟨la,l'.length,y⟩:SV)],K,S,H.frc f q,by simp[Q],((Eu.up (w':=c)).fro (p.up (w':=c)) o).frc f q,((X.mv (w:=c)).fro (p.up (w':=c)) o).fr f E,⟨Fr.st (lE w u5) f F⟩⟩
  ·refine rG O (⟨g.n,⟨L,es.length,M⟩,⟨U,d.length,W⟩⟩:FY) (rE X (⟨g.n,⟨L,es.length,M⟩,⟨U,d.length,W⟩⟩:FY) λG Z2 f2 _=>?_);have Z2:Bk G bz (enc (⟨g.n,⟨L,es.length,M⟩,⟨U,d.length,W⟩⟩:FY)) 35:=Z2;refine AR (B:=Z2) rfl ?_;have a0:k=g.ws.length:=by omega
   rw[a0,Qg]at Ru;have O2:=Eu.frc f2 X
   have Gv:Kt G ⟨g.n,⟨L,es.length,M⟩,⟨U,d.length,W⟩⟩ (CI g) d:=⟨rfl,by have:=O2.sl;rw[N]at this ⊢;exact this,(p.frc f2 X).sl,(Ru.frc f2 X).v,⟨Qw (RK GF _) V.small.1,by omega,λl hl=>by
    have C:=Qq.1 hl;obtain⟨m,hm,rfl⟩:=C
    exact Qw (RK Ie _) (V.small.2.2 m hm)⟩,λl hl s hs=>by
    have C:=Qq.1 hl;obtain⟨m,hm,rfl⟩:=C;exact V.words m hm s ((SK s _).1 hs)⟩
   exact .inl ⟨hc,⟨⟨g.n,⟨L,es.length,M⟩,⟨U,d.length,W⟩⟩,d,rfl,Gv,by rw[N]at O2 ⊢;exact O2,rfl⟩,⟨Fr.st su.e f2 λi hi=>by subst hi;omega⟩⟩
abbrev iU (g:An) (w:World) (v:Value) (w':World):Prop:=
 (∃x es,v=.tuple #[agg (x:FY),.int .i64 0]/\es.Perm g.es/\es.Pairwise Dl/\AD w.heap.size 74 w' (.slice x.es.a x.es.n x.es.c) es/\x.n=(g.n:Int))/\AC w w'
def FN (e:BP):BP:=⟨e.t,e.f⟩
theorem zQV{a b:BP}(h:FN a=FN b):a=b:=by cases a;cases b;simp[FN]at h;simp[h.1,h.2]
def Kg (g:An):An:=⟨g.n,g.es.map FN,g.ws⟩
theorem zQU(h:DK g):DK (Kg g):=⟨h.n1,h.n2,by simpa[Kg]using h.ne,h.nw,λe c=>by
 have d:=Qq.1 c;obtain⟨b,h0,rfl⟩:=d;exact⟨(h.ed b h0).2,(h.ed b h0).1⟩,h.word⟩
theorem xO{l:List BP}(h:l.Nodup):(l.map FN).Nodup:=by
 rw[Qx]at h ⊢;rw[QY];exact h.imp λb e=>b (zQV e)
theorem zPD{l:List BP}(h:k<l.length):((l.take k).map FN++l.drop k).set k (FN l[k])=(l.take (k+1)).map FN++l.drop (k+1):=by
 have b:((l.take k).map FN).length=k:=by rw[Qr,Qm];omega
 rw[List.set_append_right _ _ (by omega),b,JN,JS h,List.set_cons_zero,Cs h,QB];simp
theorem zHM{x:FY}{vs:List SV}(V:Kt w x g vs)(U:DK g)(hd:g.es.Nodup):Sp PP 140 #[agg x] w (iU (Kg g) w):=by
 have a0:=U.ne;refine eN ?_;refine BM λbx w1 n1 E=>Ap λr W n2 X=>rX E rfl (AA (uS (V.es.up (w':=W)) V.small.1) ?_);rintro v F ⟨t,e3⟩;have a1:=n1.b;have a3:=n1.s;have a4:=n2.b;have a5:=n2.s;have p:Bk F r (enc Mc) 35:=X.mv;have Y:Bk F bx (enc x) 35:=E.mv;clear X E;have t:=t.mono (lz w W);have q:=t.shape;obtain⟨l,o,rfl⟩:=q;refine rS Y [.slice l g.es.length o] (Gs _ _ _) λw4 A G _=>?_;have A:Bk w4 bx [.int .i64 x.n,.slice l g.es.length o,.slice x.ws.a x.ws.n x.ws.c] 35:=A;have H:¬r=bx:=by omega
 have I:∀i,i=bx->w.heap.size<=i:=by omega
 have s4:AC w w4:=⟨Fr.st (lE w F) G I⟩;have O4:=t.frc G Y;have Z4:=p.fr G H;refine rX A rfl ?_
 refine cN 13 [4,5] 13 g.es.length (λk u=>AD w.heap.size 74 u (.slice l g.es.length o) ((g.es.take k).map FN++g.es.drop k)/\Bk u bx [.int .i64 x.n,.slice l g.es.length o,.slice x.ws.a x.ws.n x.ws.c] 35/\Bk u r (enc Mc) 35/\AC w u)
  ⟨by simpa using O4,A,Z4,s4⟩ ?_
 rintro k gf u hk ⟨O,B,Z,su⟩;have a6:((g.es.take k).map FN++g.es.drop k).length=g.es.length:=by simp;omega
 refine ite (λAY=>?_) (λa7=>?_)
 ·have h:k<g.es.length:=by omega
  have f:((g.es.take k).map FN++g.es.drop k)[k]? = some g.es[k]:=by
   have J:((g.es.take k).map FN).length=k:=by simp_all
   rw[Xk (by omega),J,JN,Vz];exact Qd h
  refine Fs rfl O f λg1 a8 _ A1=>Ai A1 rfl (Ap λb3 u3 n3 z3=>rE z3 (g.es[k]) λd C K _=>?_);have C:Bk d b3 (enc g.es[k]) 74:=C;have d4:AC u d:=n3.st K;refine rX (B.mv (w:=d)) rfl (rX C rfl (rX C rfl ?_));refine AJ (cs:=enc (FN g.es[k])) rfl (Fs rfl (O.up (w':=d)) f λg2 L _ A2=>Kk (u:=w) rfl (FN g.es[k]) (O.up (w':=d)) L (by omega) rfl λu5 O5 f5 s5 _=>?_);rw[zPD h]at O5;exact rA ⟨rfl,h,O5,(B.mv (w:=d)).fro (O.up (w':=d)) f5,(Z.mv (w:=d)).fro (O.up (w':=d)) f5,stp⟩
 ·have q:k=g.es.length:=by omega
  obtain rfl:=q;rw[Qg,Yh,QE]at O;have V':Kt u ⟨x.n,⟨l,g.es.length,o⟩,x.ws⟩ (Kg g) vs:=⟨V.n,O.sl,V.ws.up,V.rows.up,⟨by simpa[Kg]using V.small.1,V.small.2.1,V.small.2.2⟩,V.words⟩;refine rG B (⟨x.n,⟨l,g.es.length,o⟩,x.ws⟩:FY) (AA (cY V') ?_);rintro _ u2 (⟨_,⟨y,a9,rfl,_,hS,M⟩,e2⟩|⟨N,_⟩)
  case' inr=>exact absurd (zQU U) N
  have Q:=Up GF (Kg g).es;have hp:(AW Dl (Kg g).es).Perm (Kg g).es:=(JM (zOn GF Q) (xO hd)).2 λz=>SK z _;have q:∃es,es=AW Dl (Kg g).es:=⟨_,rfl⟩;obtain⟨es,S⟩:=q;rw[<-S]at hS Q hp;have Z2:=Z.mv (w:=u2);refine rE Z2 y λu3 p f3 _=>?_;have p:Bk u3 r (enc y) 35:=p;refine AR (B:=p) rfl ?_;exact⟨⟨y,es,rfl,hp,Q,(hS.frc f3 Z2).mono su.e.size,M⟩,⟨Fr.st (lE w u2) f3 λi hi=>by subst hi;omega⟩⟩
def Be (l:List BP) (v:Nat):Nat:=(l.filter λe=>decide (e.f<v)).length
def HX (l:List BP) (v:Nat):Nat:=(l.filter λe=>decide (e.f+1=v)).length
def Di (n:Nat) (l:List BP):List Int:=(List.range (n+1)).map λv=>(Be l v:Int)
def Dc (l:List BP):List Int:=l.map λe=>(e.t:Int)
theorem zOF(l:List BP)(e:BP)(v:Nat):HX (l++[e]) v=HX l v+if e.f+1=v then 1 else 0:=by
 unfold HX;rw[QV,Qb];by_cases h:e.f+1=v<;>simp[h]
theorem kZ(l:List BP)(v:Nat):Be l (v+1)=Be l v+HX l (v+1):=by
 unfold Be HX
 induction l with
 |nil=>rfl
 |cons e r h =>
  simp only[Vj];by_cases d:e.f<v
  ·have b:e.f<v+1:=by omega
   have c:¬e.f+1=v+1:=by omega
   simp only[d,b,c,decide_true,decide_false,if_true,QA];simp only[Jt,if_false];omega
  ·by_cases o:e.f=v
   ·have b:e.f<v+1:=by omega
    have c:e.f+1=v+1:=by omega
    simp only[d,b,c,decide_true,decide_false,if_true,QA];simp only[Jt,if_false];omega
   ·have b:¬e.f<v+1:=by omega
    have c:¬e.f+1=v+1:=by omega
    simp only[d,b,c,decide_false,Jt,if_false];omega
theorem jO(l:List BP):Be l 0=0:=by simp[Be]
theorem zOG(l:List BP):HX l 0=0:=by simp[HX]
theorem Eh(l:List BP)(v:Nat):Be l v<=l.length:=Qv _ _
theorem RI(l:List BP)(v:Nat):HX l v<=l.length:=Qv _ _
theorem ZQ{α:Type}{f:Nat->α}(h:k<n):((List.range n).map f)[k]? = some (f k):=by simp[h]
theorem gT{α:Type}{f:Nat->α}{y:α}(h:k<n):((List.range n).map f).set k y=(List.range n).map λj=>if j=k then y else f j:=by
 apply Vl;intro i;rw[Vw];by_cases hi:k=i
 ·subst hi;simp[h]
 ·simp only[hi,if_false,QK];by_cases b:i<n
  ·simp[b,Jq hi]
  ·simp[b]
theorem pA{c:Nat}{l:List BP}(h:AQ w (.slice a m c) l)(hn:n<=200)(hl:l.length<=2000)(hf:∀e∈l,e.f<n):
  Sp PP 141 #[.int .i64 (n:Int),.slice a m c] w λv w'=>(∃vo vt,v=.tuple #[vo,vt]/\AD w.heap.size 3 w' vo (Di n l)/\AD w.heap.size 3 w' vt (Dc l))/\AC w w':=by
 have z:=h.len;obtain rfl:=z;refine eN ?_;refine rF (n+1) (Id (0:Int) rfl rfl (by omega) λG w1 O1 s1 a5=>?_);have H:=O1.lt (by intro h0;have:=congrArg List.length h0;simp at this);obtain⟨gg,U,_,V⟩:=H;cases U
 refine cO 14 [7] 5 14 l.length (λk v u=>AD w.heap.size 3 u (.slice (some ⟨G,0,none⟩) (n+1) (n+1)) ((List.range (n+1)).map λj=>(HX (l.take k) j:Int))/\AD w.heap.size 3 u v (Dc (l.take k))/\(∀g,Value.blk v=some g->g≠G)/\G<u.heap.size/\AC w u)
  ⟨by rw[show((List.range (n+1)).map λj=>(HX (l.take 0) j:Int))=List.replicate (n+1) 0 from by rw[List.eq_replicate_iff];refine⟨by simp,λb hb=>?_⟩;obtain⟨j,_,rfl⟩:=Qq.1 hb;rfl];exact O1,AD.nil _ _ _,(λg E=>by cases E),V,stp⟩ ?_
 rintro k v gf u hk ⟨O,W,o,a6,su⟩;refine ite (λAY=>?_) (λX=>?_)
 ·have r:k<l.length:=by omega
  have a7:=hf _ (Qa r);have Y:=RI (l.take k) (l[k].f+1);rw[Qm]at Y;refine Bv (h.up (w':=u)) (x:=l[k]) (by simp) λb2 o2 A2=>Ai A2 rfl (Ap λb3 Q n3 z3=>rE z3 (l[k]) λA S Z _=>?_);have S:Bk A b3 (enc l[k]) 74:=S;have d4:AC u A:=n3.st Z;refine rX S rfl (rF (l[k].f+1) (Fs rfl (O.up (w':=A)) (i:=l[k].f+1) (x:=(HX (l.take k) (l[k].f+1):Int)) (ZQ (by omega)) λg1 s _ A1=>AF (A1.cell0 rfl) (rF (HX (l.take k) (l[k].f+1)+1) (Fs rfl (O.up (w':=A)) (i:=l[k].f+1) (x:=(HX (l.take k) (l[k].f+1):Int)) (ZQ (by omega)) λg2 a0 _ A2=>Kk (u:=w) rfl ((HX (l.take k) (l[k].f+1)+1:Nat):Int) (O.up (w':=A)) a0 (by simp;omega) rfl λu5 q y s5 _=>?_))));have X5:=S.fro (O.up (w':=A)) y;have I:=(W.up (w':=A)).fr y (λb _ hb hd=>o b hb (QL hd.2.1).symm);rw[gT (by omega)]at q;refine rX X5 rfl (bS (l[k].t:Int) λb6 J e6 _ S6=>?_);have a1:w.heap.size<=J.heap.size:=Le.size;refine GB ⟨rfl,rfl⟩ (I.up (w':=J)) S6 (by simp) a1 (by simp[Dc];omega) λv7 u7 O7 f7 a3=>?_;have s7:Gl w J u7:=Mu f7;have zz:u.heap.size<=J.heap.size:=by have h1:=d4.e.size;have h2:=y.size;have h3:=e6.e.size;omega
  have K:=(q.up (w':=J)).fr f7 (λb _ hb hd=>o b hd.2.1 (QL hb).symm);have e1:Dc (l.take (k+1))=Dc (l.take k)++[(l[k].t:Int)]:=by rw[Cs r];unfold Dc;rw[QB];rfl
  rw[<-e1]at O7
  have L:((List.range (n+1)).map λj=>if j=l[k].f+1 then((HX (l.take k) (l[k].f+1)+1:Nat):Int) else(HX (l.take k) j:Int))=(List.range (n+1)).map λj=>(HX (l.take (k+1)) j:Int):=by
   apply Ja;intro j _;rw[Cs r,zOF];by_cases d:l[k].f+1=j
   ·subst d;simp
   ·simp[d,Jq d]
  rw[L]at K;have z7:=f7.size
  have M:∀g,Value.blk v7=some g->g≠G:=λg E=>by
   rcases a3 with h7|h7
   ·rw[h7]at E;exact o g E
   ·rw[h7]at E;cases E;omega
  exact rA ⟨rfl,r,K,O7,M,by omega,stp⟩
 have z:k=l.length:=by omega
 obtain rfl:=z;rw[Qg]at O W;refine cN 33 [8] 33 n (λk u'=>AD w.heap.size 3 u' (.slice (some ⟨G,0,none⟩) (n+1) (n+1)) ((List.range (n+1)).map λj=>if j<=k then(Be l j:Int) else(HX l j:Int))/\AD w.heap.size 3 u' v (Dc l)/\AC w u') ⟨?_,W,su⟩ ?_
 ·have e0:((List.range (n+1)).map λj=>if j<=0 then(Be l j:Int) else(HX l j:Int))=(List.range (n+1)).map λj=>(HX l j:Int):=by
   apply Ja;intro j _;by_cases d:j<=0
   ·have z:j=0:=by omega
    obtain rfl:=z;simp[jO,zOG]
   ·simp[d]
  rw[e0];exact O
 rintro k a8 u2 a9 ⟨O2,T2,s2⟩;refine ite (λAY=>?_) (λX=>?_)
 ·have N:k<n:=by omega
  have h1:=Eh l k;have h2:=RI l (k+1);have h3:=kZ l k;have h4:=Eh l (k+1);have s:((List.range (n+1)).map λj=>if j<=k then(Be l j:Int) else(HX l j:Int))[k+1]? = some (HX l (k+1):Int):=by rw[ZQ (by omega),if_neg (by omega)]
  have a4:((List.range (n+1)).map λj=>if j<=k then(Be l j:Int) else(HX l j:Int))[k]? = some (Be l k:Int):=by rw[ZQ (by omega),if_pos (by omega)]
  refine dT (λ_=>True) (oL [0,1,2,3,5,6,7] (.duo 4 (.lone 8 (oL [9,10,11] .nil)) 8 (.lone 4 (oL [9,10,11] .nil)))) λQ e3=>?_;have F:=O2.up (w':=Q);refine rF (k+1) (ET rfl F s λg3 b0 _ A3=>ET rfl F a4 λg4 b1 _ A4=>?_);refine⟨?_,?_⟩
  ·refine AF (A3.cell0 rfl) ⟨Fr.refl _ _,?_⟩;refine AF (A4.cell0 rfl) ⟨Fr.refl _ _,?_⟩;refine rF (Be l (k+1)) (ET rfl F s λg5 C _ A5=>Kk (u:=w) rfl (Be l (k+1):Int) F C (by simp;omega) rfl λu5 q y s5 _=>⟨Fr.mono y λ_ _ _=>trivial,?_⟩);have I:=(T2.up (w':=Q)).fr y (λb _ hb hd=>o b hb (QL hd.2.1).symm);rw[gT (by omega)]at q
   have L:((List.range (n+1)).map λj=>if j=k+1 then(Be l (k+1):Int) else if j<=k then(Be l j:Int) else(HX l j:Int))=(List.range (n+1)).map λj=>if j<=k+1 then(Be l j:Int) else(HX l j:Int):=by
    apply Ja;intro j _;by_cases d:j=k+1
    ·subst d;simp
    ·by_cases p:j<=k
     ·rw[if_neg d,if_pos p,if_pos (by omega)]
     ·rw[if_neg d,if_neg p,if_neg (by omega)]
   rw[L]at q;exact rA ⟨rfl,N,q,I,stp⟩
  ·refine AF (A4.cell0 rfl) ⟨Fr.refl _ _,?_⟩;refine AF (A3.cell0 rfl) ⟨Fr.refl _ _,?_⟩;refine rF (Be l (k+1)) (ET rfl F s λg5 C _ A5=>Kk (u:=w) rfl (Be l (k+1):Int) F C (by simp;omega) rfl λu5 q y s5 _=>⟨Fr.mono y λ_ _ _=>trivial,?_⟩);have I:=(T2.up (w':=Q)).fr y (λb _ hb hd=>o b hb (QL hd.2.1).symm);rw[gT (by omega)]at q
   have L:((List.range (n+1)).map λj=>if j=k+1 then(Be l (k+1):Int) else if j<=k then(Be l j:Int) else(HX l j:Int))=(List.range (n+1)).map λj=>if j<=k+1 then(Be l j:Int) else(HX l j:Int):=by
    apply Ja;intro j _;by_cases d:j=k+1
    ·subst d;simp
    ·by_cases p:j<=k
     ·rw[if_neg d,if_pos p,if_pos (by omega)]
     ·rw[if_neg d,if_neg p,if_neg (by omega)]
   rw[L]at q;exact rA ⟨rfl,N,q,I,stp⟩
 ·have z:k=n:=by omega
  obtain rfl:=z;refine⟨⟨_,_,rfl,?_,T2⟩,stp⟩
  have e3:Di k l=(List.range (k+1)).map λj=>if j<=k then(Be l j:Int) else(HX l j:Int):=by
   apply Ja;intro j d;rw[if_pos (by have:=Q0.1 d;omega)]
  rw[e3];exact O2
structure CP where
 off:SV
 to:SV
 rof:SV
 rev:SV
instance:AK CP:=⟨4,λx=>[.slice x.off.a x.off.n x.off.c,.slice x.to.a x.to.n x.to.c,.slice x.rof.a x.rof.n x.rof.c,.slice x.rev.a x.rev.n x.rev.c],λ_=>rfl,by intro x u hu;simp at hu;rcases hu with rfl|rfl|rfl|rfl<;>rfl,by decide⟩
def Kr (g:An) (r:List BP):Prop:=r.Perm (g.es.map FN)/\r.Pairwise Dl
structure gK (B:Nat) (w:World) (x:CP) (g:An) (r:List BP):Prop where
 rev':Kr g r
 off:AD B 3 w (.slice x.off.a x.off.n x.off.c) (Di g.n g.es)
 to:AD B 3 w (.slice x.to.a x.to.n x.to.c) (Dc g.es)
 rof:AD B 3 w (.slice x.rof.a x.rof.n x.rof.c) (Di g.n r)
 rev:AD B 3 w (.slice x.rev.a x.rev.n x.rev.c) (Dc r)
theorem zN2{l:List BP}(h:l.Pairwise Dl):l.Nodup:=by
 rw[Qx];exact h.imp λ{a b} h e=>by subst e;unfold Dl at h;omega
theorem tP{x:FY}{vs:List SV}(V:Kt w x g vs)(hg:Bb g):Sp PP 83 #[agg x] w λv w'=>(∃y r,v=.tuple #[agg (y:CP),.int .i64 0]/\gK w.heap.size w' y g r)/\AC w w':=by
 have O:=hg.chk;have Q:=O.n2;have a0:=O.ne;refine eN ?_;refine BM λbx w1 n1 J=>Ap λbz w2 n2 z2=>rG J x (AA (dP (V.up (w':=w2))) ?_);rintro _ w3 ⟨⟨rfl,_⟩|⟨rfl,a1⟩,e3⟩
 case' inr=>exact absurd hg a1
 refine rG J x (AA (zHM (V.up (w':=w3)) O (zN2 hg.er)) ?_);rintro _ Y ⟨⟨y,r,rfl,hp,hs,O4,b5⟩,e4⟩;have b6:=n1.b;have b7:=n1.s;have b8:=n2.b;have b9:=n2.s;have c0:=lz w2 Y;have Z4:Bk Y bz (enc (⟨⟨none,0,0⟩,⟨none,0,0⟩,⟨none,0,0⟩,⟨none,0,0⟩⟩:CP)) 82:=z2.mv;have O4:=O4.mono (lz w w3);clear z2;refine Ap λbt w5 n5 z5=>rE z5 y λw6 Z f6 _=>?_;have Z:Bk w6 bt (enc y) 35:=Z;have s6:AC Y w6:=n5.st f6;clear z5;refine Ap λbr w7 n7 z7=>?_;have R7:Bk w7 br (enc (⟨⟨none,0,0⟩,⟨none,0,0⟩,⟨none,0,0⟩,⟨none,0,0⟩⟩:CP)) 82:=z7;clear z7;have c1:=n7.b;have c2:=lz Y w6;have c3:=f6.size;have c4:=n5.s;have c5:=n5.b;refine rX J rfl (rX J rfl ?_);have L1:=pA (n:=g.n) (l:=g.es) (w:=w7) V.es.up Q a0 (λe he=>(O.ed e he).1);rw[<-V.n]at L1;refine AA L1 ?_;rintro _ E ⟨⟨vo,vt,rfl,Oo,Ot⟩,e8⟩;have A:∀i,i=br->w.heap.size<=i:=by omega
 have Oo:=Oo.mono (lz w w7);have Ot:=Ot.mono (lz w w7);have C:=Oo.shape;obtain⟨oa,oc,rfl⟩:=C;have C:=Ot.shape;obtain⟨ta,tc,rfl⟩:=C;refine rS (R7.mv (w:=E)) [.slice oa (Di g.n g.es).length oc] (Gs _ _ _) λw9 S F _=>?_;have s9:AC w w9:=⟨Fr.st (lE w E) F A⟩;have k9:=R7.mv (w:=E);have a3:=Oo.frc F k9;have a4:=Ot.frc F k9;have O9:=(O4.up (w':=E)).frc F k9;have T9:=(Z.mv (w:=E)).fr F (by omega);have Z9:=(Z4.mv (w:=E)).fr F (by omega);have B9:=(J.mv (w:=E)).fr F (by omega);refine rS S [.slice ta (Dc g.es).length tc] (Gs _ _ _) λh G c _=>?_;have G:Bk h br [.slice oa (Di g.n g.es).length oc,.slice ta (Dc g.es).length tc,.slice none 0 0,.slice none 0 0] 82:=G;have c6:AC w h:=⟨Fr.st s9.e c A⟩;have U:=a3.frc c S;have W:=a4.frc c S;have a5:=O9.frc c S;have a6:=T9.fr c (by omega);have a7:=Z9.fr c (by omega);have a8:=B9.fr c (by omega);clear S J Z Z4 R7 B9 T9 Z9;refine rX a8 rfl (rX a6 rfl ?_);have a9:r.length<=2000:=by have:=hp.length_eq;simp[Kg]at this;omega
 have L2:=pA (n:=g.n) (l:=r) (w:=h) a5.sl Q a9 (λe he=>by
  have:=hp.mem_iff.1 he;have C:=Qq.1 this;obtain⟨e0,h0,rfl⟩:=C;exact(O.ed e0 h0).2)
 rw[<-V.n]at L2;refine AA L2 ?_;rintro _ o ⟨⟨vp,vq,rfl,Op,Oq⟩,c7⟩;have Op:=Op.mono (lz w h);have Oq:=Oq.mono (lz w h);have C:=Op.shape;obtain⟨K,L,rfl⟩:=C;have C:=Oq.shape;obtain⟨M,N,rfl⟩:=C;have p:=G.mv (w:=o);refine rS p [.slice K (Di g.n r).length L] (Gs _ _ _) λb0 q d _=>?_;have b1:AC w b0:=⟨Fr.st (lE w o) d A⟩;have b2:=(a7.mv (w:=o)).fr d (by omega);refine rS q [.slice M (Dc r).length N] (Gs _ _ _) λX H f _=>?_;have b3:AC w X:=⟨Fr.st b1.e f A⟩;have t:=b2.fr f (by omega);have H:Bk X br (enc (⟨⟨oa,(Di g.n g.es).length,oc⟩,⟨ta,(Dc g.es).length,tc⟩,⟨K,(Di g.n r).length,L⟩,⟨M,(Dc r).length,N⟩⟩:CP)) 82:=H;refine rG H (⟨⟨oa,(Di g.n g.es).length,oc⟩,⟨ta,(Dc g.es).length,tc⟩,⟨K,(Di g.n r).length,L⟩,⟨M,(Dc r).length,N⟩⟩:CP) (rE t (⟨⟨oa,(Di g.n g.es).length,oc⟩,⟨ta,(Dc g.es).length,tc⟩,⟨K,(Di g.n r).length,L⟩,⟨M,(Dc r).length,N⟩⟩:CP) λb4 I z _=>?_);have I:Bk b4 bz (enc (⟨⟨oa,(Di g.n g.es).length,oc⟩,⟨ta,(Dc g.es).length,tc⟩,⟨K,(Di g.n r).length,L⟩,⟨M,(Dc r).length,N⟩⟩:CP)) 82:=I;refine AR (B:=I) rfl ?_;refine⟨⟨⟨⟨oa,(Di g.n g.es).length,oc⟩,⟨ta,(Dc g.es).length,tc⟩,⟨K,(Di g.n r).length,L⟩,⟨M,(Dc r).length,N⟩⟩,r,rfl,⟨hp,hs⟩,?_,?_,?_,?_⟩,⟨Fr.st b3.e z λi hi=>by omega⟩⟩
 ·exact(((U.up (w':=o)).frc d p).frc f q).frc z t
 ·exact(((W.up (w':=o)).frc d p).frc f q).frc z t
 ·exact((Op.frc d p).frc f q).frc z t
 ·exact((Oq.frc d p).frc f q).frc z t
structure Px (n:Nat) (l:List BP):Prop where
 n1:1<=n
 n2:n<=200
 lt:∀e∈l,e.f<n/\e.t<n
 ris:l.Pairwise Dl
 len:l.length<=2000
def Fk (l:List BP) (v:Nat):List BP:=l.filter λe=>decide (e.f=v)
def Ht (l:List BP) (v:Nat):List Nat:=(Fk l v).map (·.t)
theorem zPZ(l:List BP)(v:Nat):(Fk l v).length=HX l (v+1):=by simp[Fk,HX]
theorem eT:∀{l:List BP},l.Pairwise Dl->∀v,l.drop (Be l v)=Fk l v++l.filter (λe=>decide (v<e.f))/\l.take (Be l v)=l.filter λe=>decide (e.f<v)
 |[],_,v=>by simp[Fk,Be]
 |e::r,h,v=>by
  rw[QM]at h;have o:=eT h.2 v;have c:∀x∈r,e.f<=x.f:=λx b=>by have:=h.1 x b;unfold Dl at this;omega
  by_cases p:e.f<v
  ·have q:Be (e::r) v=Be r v+1:=by unfold Be;rw[Vj,if_pos (by simpa using p),QA]
   rw[q];have y:Fk (e::r) v=Fk r v:=by unfold Fk;rw[Vj,if_neg (by simp;omega)]
   rw[y,Vj,if_neg (by simp;omega),Vj,if_pos (by simpa using p)];exact⟨by simpa using o.1,by simpa using o.2⟩
  ·have q:Be (e::r) v=0:=by
    unfold Be;rw[XB,JA];intro x b;have d:=Ql.1 b;rcases d with rfl|b
    ·simpa using p
    ·have:=c x b;simp;omega
   have z:Be r v=0:=by
    unfold Be;rw[XB,JA];intro x b;have:=c x b;simp;omega
   rw[z,Jf]at o;rw[q,Jf,Xa];refine⟨?_,?_⟩
   ·by_cases t:e.f=v
    ·have s:Fk (e::r) v=e::Fk r v:=by unfold Fk;rw[Vj,if_pos (by simpa using t)]
     rw[s,Vj,if_neg (by simp;omega),VO,<-o.1]
    ·have s:Fk (e::r) v=[]:=by
      unfold Fk;rw[JA];intro x b;have d:=Ql.1 b;rcases d with rfl|b
      ·simpa using t
      ·have:=c x b;simp;omega
     have A:(e::r).filter (λe=>decide (v<e.f))=e::r:=by
      rw[JH];intro x b;have d:=Ql.1 b;rcases d with rfl|b
      ·simp;omega
      ·have:=c x b;simp;omega
     rw[s,A];rfl
   ·symm;rw[JA];intro x b;have d:=Ql.1 b;rcases d with rfl|b
    ·simpa using p
    ·have:=c x b;simp;omega
theorem Um{l:List BP}(h:l.Pairwise Dl)(v:Nat):(l.drop (Be l v)).take (Be l (v+1) - Be l v)=Fk l v:=by simp_all[eT,kZ,zPZ,V6]
theorem U6{l:List BP}(h:l.Pairwise Dl){v:Nat}(b:j<(Fk l v).length):l[Be l v+j]? = some (Fk l v)[j]/\(Fk l v)[j].f=v:=by
 have c:=(eT h v).1;refine⟨?_,?_⟩
 ·rw[<-Vz,c,VL b,Qd b]
 ·have:=Qa b;have d:=(QC.1 this).2;exact of_decide_eq_true d
theorem rH{l:List BP}(h:∀e∈l,e.f<n):Be l n=l.length:=by simp_all[Be]
theorem KY{v:Nat}{l:List BP}(h:v<=n):(Di n l)[v]? = some (Be l v:Int):=ZQ (by omega)
theorem Mk(n:Nat)(l:List BP):(Di n l).length=n+1:=by simp[Di]
theorem PL(l:List BP):(Dc l).length=l.length:=by simp[Dc]
theorem U0{l:List BP}(h:l.Pairwise Dl)(v:Nat):((Dc l).drop (Be l v)).take (Be l (v+1) - Be l v)=Dc (Fk l v):=by
 unfold Dc;rw[<-List.map_drop,<-List.map_take,Um h]
theorem SQ(l:List BP)(v:Nat):Be l v<=Be l (v+1):=by have:=kZ l v;omega
theorem jK(g:An)(v:Nat):Aj g 0 v=Ht g.es v:=by
 unfold Aj Ht Fk;rw[if_neg (by decide)];congr 1
theorem yN:∀{a b:List Nat},a.Pairwise (· < ·)->b.Pairwise (· < ·)->(∀x,x∈a↔x∈b)->a=b:=by
 intro a b e hb h;have c:a.Nodup:=by rw[Qx];exact e.imp λh=>by omega
 have d:b.Nodup:=by rw[Qx];exact hb.imp λh=>by omega
 have f:=(JM c d).2 h;exact f.eq_of_pairwise (λx y _ _ l o=>by omega) (e.imp λh=>Yj h) (hb.imp λh=>Yj h)
theorem uF{l:List BP}(h:l.Pairwise Dl)(v:Nat):(Ht l v).Pairwise (· < ·):=by
 unfold Ht;rw[QY];have c:(Fk l v).Pairwise Dl:=h.filter _;refine c.imp_of_mem λ{a b} d hb AY=>?_;have e:=(QC.1 d).2;have f:=(QC.1 hb).2;simp only[decide_eq_true_eq]at e f;unfold Dl at AY;show a.t<b.t;omega
theorem eU{r:List BP}(l:g.es.Pairwise Dl)(d:Kr g r)(v:Nat):Aj g 1 v=Ht r v:=by
 have o:Aj g 1 v=(g.es.filter λe=>e.t==v).map (·.f):=by unfold Aj;rw[if_pos rfl]
 rw[o];refine yN ?_ (uF d.2 v) λx=>?_
 ·rw[QY];refine(l.filter _).imp_of_mem λ{a b} p hb AY=>?_;have c:=(QC.1 p).2;have q:=(QC.1 hb).2;simp only[beq_iff_eq]at c q;unfold Dl at AY;show a.f<b.f;omega
 ·unfold Ht Fk;simp only[Qq,QC,beq_iff_eq,decide_eq_true_eq];constructor
  ·rintro⟨e,⟨h,c⟩,rfl⟩;exact⟨FN e,⟨d.1.mem_iff.2 (Qq.2 ⟨e,h,rfl⟩),c⟩,rfl⟩
  ·rintro⟨e,⟨h,c⟩,rfl⟩;have s:=Qq.1 (d.1.mem_iff.1 h);obtain⟨y,h0,rfl⟩:=s;exact⟨y,⟨h0,c⟩,rfl⟩
theorem Bb.rowI(h:Bb g):Px g.n g.es:=⟨h.ok.n1,h.ok.n2,h.ok.ed,h.er,h.ne⟩
theorem Bb.rowR{r:List BP}(h:Bb g)(b:Kr g r):Px g.n r:=⟨h.ok.n1,h.ok.n2,λe d=>by
 have f:=Qq.1 (b.1.mem_iff.1 d);obtain⟨c,h0,rfl⟩:=f;exact⟨(h.ok.ed c h0).2,(h.ok.ed c h0).1⟩,b.2,by have:=b.1.length_eq;have:=h.ne;simp at *;omega⟩
section
variable {P:Program} {k:KW} {pn:PW} {w:World}
theorem zPw{X Y:Operand}{t:TypeId}{x:Nat}(w:World):(do eqGuard .shr t X Y (.int .u64 (x:Int)) (.int .u64 1);binOp .shr t (.int .u64 (x:Int)) (.int .u64 1):Sem Value).run P w=.ok (.int .u64 ((x / 2:Nat):Int)) w:=by
 have g:(eqGuard .shr t X Y (.int .u64 (x:Int)) (.int .u64 1)).run P w=.ok () w:=rfl;rw[Qo,g,Qh];have b:min (1:Int).toNat IntKind.u64.bits=1:=rfl;simp only[binOp,Op.shift,b];rw[if_neg (by decide)]
 have:(x:Int).fdiv (2 ^ 1)=((x / 2:Nat):Int):=by
  rw[Int.fdiv_eq_ediv_of_nonneg _ (by decide)];simp
 rw[this];rfl
theorem ZA{X Y:Operand}{t:TypeId}{x:Nat}(b:k (.int .u64 ((x / 2:Nat):Int)) w):AI P (do eqGuard .shr t X Y (.int .u64 (x:Int)) (.int .u64 1);binOp .shr t (.int .u64 (x:Int)) (.int .u64 1)) k pn w:=AI.of (zPw w) b
theorem Nl{α:Type}[AK α]{t e:TypeId}{z:Value}{b:Nat}[f:DQ P t e][o:AX P e z (AK.sz α) b]{k:Value->Prop}{c:Nat}{l:List α}(lo hi:Nat)(h:AQ w (.slice a n c) l)(p:lo<=hi)(q:hi<=n)
  (r:k (.slice (if c=lo then a else a.map (·.add (lo*AK.sz α))) (hi - lo) (c - lo))):Ar P (Instr.sliceAt t (.slice a n c) (some (.int .i64 lo)) (some (.int .i64 hi)) none) D k w:=by
 have d:n<=c:=by obtain⟨a',x,s,v,_⟩:=h;cases s;exact v
 rw[Iv];exact⟨_,λw' _=>Sf f o (some lo) (some hi) p (Qw q d) w',r⟩
end
theorem wR{x y:Int}:Sp PP 208 #[.int .i64 x,.int .i64 y] w λv w'=>Ao (x<y) v/\w'=w:=by
 refine eN ?_;refine AA (jE) ?_;rintro v w1 ⟨rfl,rfl⟩;exact ite (λh=>⟨.t h,rfl⟩) (λh=>⟨.f h,rfl⟩)
structure IF (w:World) (x:CP) (g:An) (r:List BP):Prop where
 rev':Kr g r
 off:AQ w (.slice x.off.a x.off.n x.off.c) (Di g.n g.es)
 to:AQ w (.slice x.to.a x.to.n x.to.c) (Dc g.es)
 rof:AQ w (.slice x.rof.a x.rof.n x.rof.c) (Di g.n r)
 rev:AQ w (.slice x.rev.a x.rev.n x.rev.c) (Dc r)
theorem IF.up[Le w w']{x:CP}{r:List BP}(h:IF w x g r):IF w' x g r:=⟨h.rev',h.off.up,h.to.up,h.rof.up,h.rev.up⟩
theorem xE{c:Nat}{l:List BP}(h:AQ w (.slice a m c) (Di n l))(t:n<=200):Sp PP 205 #[.slice a m c] w λv w'=>v=.bool true/\AC w w':=by
 have b:=h.len;obtain rfl:=b;have x:=Mk n l;refine eN ?_;refine rF n (GV Aa 4 [2] 3 (λv u=>∃k:Nat,v=.int .i64 (k:Int)/\k<=n/\AC w u) (λv _=>(Go.RowKit.intOf v).toNat) rfl ⟨n,rfl,Qe _,stp⟩ ?_);rintro v g u ⟨k,rfl,f,e⟩;refine ite (λAY=>?_) (λo=>⟨rfl,stp⟩);have b:∃j,k=j+1:=⟨k - 1,by omega⟩;obtain⟨j,rfl⟩:=b;refine dQ 10 λp y=>?_;have d:=h.up (w':=p);refine CL (i:=j+1) d (KY f) λz A q _=>AP (q.cell0 rfl) nf (rF j (CL d (KY (v:=j) (by omega)) λC E r _=>AP (r.cell0 rfl) nf (AA wR ?_)));have F:=SQ l j;rintro _ _ ⟨⟨rfl,s⟩|⟨rfl,s⟩,rfl⟩
 ·omega
 refine⟨Fr.refl _ _,?_⟩;refine rF j ⟨⟨j,rfl,by omega,stp⟩,?_⟩;show((j:Int)).toNat<(((j+1:Nat):Int)).toNat;omega
theorem vI{most:Int}{c:Nat}{l:List Int}(h:AQ w (.slice a n c) l)(A:l.length<=1000000):Sp PP 206 #[.int .i64 most,.slice a n c] w λv w'=>Ao (∀x∈l,0<=x/\x<=most) v/\AC w w':=by
 have p:=h.len;obtain rfl:=p;refine eN ?_;refine cN 9 [4,6] 9 l.length (λk u=>(∀x∈l.take k,0<=x/\x<=most)/\AC w u) ⟨by simp,stp⟩ ?_;rintro k g u C ⟨b,e⟩;refine ite (λAY=>?_) (λr=>?_)
 ·have d:k<l.length:=by omega
  refine Bv (h.up (w':=u)) (x:=l[k]) (by simp) λE F s=>AF (s.cell0 rfl) (ite (λy=>⟨.f λq=>by have:=q _ (Qa d);omega,stp⟩) (λy=>?_));refine ite (λz=>⟨.f λq=>by have:=q _ (Qa d);omega,stp⟩) (λz=>?_);refine rA ⟨rfl,d,λt o=>?_,stp⟩;rw[Cs d]at o;have p:=Qf.1 o;rcases p with o|o
  ·exact b t o
  ·rw[Qc.1 o];omega
 ·have p:k=l.length:=by omega
  obtain rfl:=p;rw[Qg]at b;exact⟨.t b,stp⟩
structure GM (l:List BP) (n:Nat) (oa:OA) (oc:Nat) (ta:OA) (tc:Nat) (b1 b2:Nat) (u:World):Prop where
 off:AQ u (.slice oa (Di n l).length oc) (Di n l)
 to:AQ u (.slice ta (Dc l).length tc) (Dc l)
 bo:Bk u b1 [.slice oa (Di n l).length oc] 63
 bt:Bk u b2 [.slice ta (Dc l).length tc] 63
section
variable {l:List BP} {n:Nat} {oa:OA} {oc:Nat} {ta:OA} {tc b1 b2:Nat} {u u':World}
theorem GM.up[Le u u'](h:GM l n oa oc ta tc b1 b2 u):GM l n oa oc ta tc b1 b2 u':=⟨h.off.up,h.to.up,h.bo.mv,h.bt.mv⟩
theorem GM.qt(h:GM l n oa oc ta tc b1 b2 u)(q:Qt B u u'):GM l n oa oc ta tc b1 b2 u':=⟨h.off.qt q,h.to.qt q,h.bo.qt q,h.bt.qt q⟩
end
def Mo (l:List BP):List (List Value):=l.map λe=>[.int .i64 (e.f:Int),.int .i64 (e.t:Int)]
theorem tT{l:List BP}:∀x∈Mo l,x.length=2:=by intro x b;obtain⟨e,_,rfl⟩:=Qq.1 b;rfl
theorem oB{l:List BP}{oa:OA}{oc:Nat}{ta:OA}{tc C E:Nat}(q:Px n l):Kv PP 207 [] [.pointer (some ⟨C,0,none⟩),.pointer (some ⟨E,0,none⟩)] (GM l n oa oc ta tc C E) (Mo l):=by
 have hn:=q.n2;have U:=q.len;refine⟨λy J Jx w V W F X h0=>?_⟩;have N:=F _ _ h0;have Y:=Mk n l;refine eN ?_;refine rX N.bo rfl (rF n (cN 10 [4,6] 10 n (λk u=>J (Be l k) u) (by rw[jO];exact h0) ?_));intro k G u hk H;refine ite (λAY=>?_) (λZ=>?_)
 case' refine_2 =>
  have r:k=n:=by omega
  obtain rfl:=r;rw[rH λe he=>(q.lt e he).1]at H;refine .inl ?_;unfold Mo;rw[Qr];exact H
 have I:k<n:=by omega
 refine dQ 13 λu2 e2=>?_;have s:=V _ _ _ H e2.e;have c:=F _ _ s;have O:=SQ l k;have a0:=Eh l (k+1);have a1:=PL l;refine tX c.bt rfl nf (tX c.bo rfl nf ?_);refine CL c.off (KY (v:=k) (by omega)) λb3 o3 A3 _=>AP (A3.cell0 rfl) nf (tX c.bo rfl nf (rF (k+1) (CL c.off (KY (v:=k+1) (by omega)) λb4 o4 A4 _=>AP (A4.cell0 rfl) nf ?_)));have K:=U0 q.ris k;refine Nl (Be l k) (Be l (k+1)) c.to O (by omega) ?_
 have z:∀u,GM l n oa oc ta tc C E u->AQ u (.slice (if tc=Be l k then ta else ta.map (·.add (Be l k*AK.sz Int))) (Be l (k+1) - Be l k) (tc - Be l k)) (Dc (Fk l k)):=λu d=>by
  have:=d.to.part (Be l k) (Be l (k+1)) O (by omega);rw[K]at this;exact this
 have a3:Be l (k+1) - Be l k=(Fk l k).length:=by have:=(z _ c).len;rw[PL]at this;exact this
 clear c N;refine cN 25 [6] 25 (Fk l k).length (λj u=>J (Be l k+j) u) s ?_;rintro j G2 u3 a4 h;have d3:=F _ _ h;refine ite (λQ=>?_) (λS=>?_)
 ·have o:j<(Fk l k).length:=by omega
  have r:=U6 q.ris o;obtain⟨A,L⟩:=r;refine Bv (z _ d3) (x:=((Fk l k)[j].t:Int)) (by simp[Dc,o]) λb6 o6 A6=>AF (A6.cell0 rfl) ?_
  have hx:(Mo l)[Be l k+j]? = some [.int .i64 (k:Nat),.int .i64 ((Fk l k)[j].t:Int)]:=by
   unfold Mo;rw[QK,A];show some [Value.int .i64 ((Fk l k)[j].f:Int),_]=_;rw[L]
  have M:=X _ u3 _ hx h;refine IR rfl rfl rfl rfl M ?_;rintro b u' (⟨rfl,p⟩|⟨rfl,p⟩)
  ·exact rA ⟨rfl,o,p⟩
  ·exact .inr p
 ·have r:j=(Fk l k).length:=by omega
  obtain rfl:=r;refine rA ⟨rfl,I,?_⟩;rw[show Be l (k+1)=Be l k+(Fk l k).length by omega];exact h
theorem pM{l:List BP}{no e:Nat}{oa:OA}{oc:Nat}{ta:OA}{tc:Nat}(f:AQ w (.slice oa no oc) (Di n l))(h:AQ w (.slice ta e tc) (Dc l)):
  Sp PP 143 #[.slice oa no oc,.slice ta e tc] w λv w'=>(∃b c,v=.func (.func 207) #[] #[.pointer (some ⟨b,0,none⟩),.pointer (some ⟨c,0,none⟩)]/\GM l n oa oc ta tc b c w'/\w.heap.size<=b/\w.heap.size<=c)/\AC w w':=by
 have d:=f.len;obtain rfl:=d;have d:=h.len;obtain rfl:=d;refine eN ?_;refine BM λb w1 n1 o=>BM λc q n2 p=>?_;exact⟨⟨b,c,rfl,⟨f.up,h.up,o.mv,p.mv⟩,n1.lo,n2.lo⟩,stp⟩
def Gg (l:List BP):Nat->Int×Int
 |0=>(-1,0)
 |i+1=>match l[i]? with|some e=>(e.f,e.t)|none=>(-1,0)
theorem rP{l:List BP}{no nt:Nat}{oa:OA}{oc:Nat}{ta:OA}{tc:Nat}(F:Px n l)(G:AQ w (.slice oa no oc) (Di n l))(Y:AQ w (.slice ta nt tc) (Dc l)):
  Sp PP 142 #[.slice oa no oc,.slice ta nt tc] w λv w'=>v=.bool true/\AC w w':=by
 have Q:=G.len;obtain rfl:=Q;have Q:=Y.len;obtain rfl:=Q;have Z:=F.n1;have h2:=F.n2;have h3:=F.len;have a7:=Mk n l;have a8:=PL l;refine eN ?_;refine Ap λbr w1 n1 z1=>rF n (Ap λbn w2 n2 z2=>rS z2 [.int .i64 (n:Int)] (HT _) λS K f3 _=>?_);have K:Bk S bn [.int .i64 (n:Int)] 3:=K;have s3:AC w1 S:=n2.st f3;clear z2;have a9:=n1.b;have b0:=n1.s;have b3:=n2.b;have b7:=n2.s;have b8:=f3.size;refine rX K rfl (iF (by omega) (rX K rfl (iF (by omega) (iF (by omega) (Bv (i:=0) (G.up (w':=S)) (KY (v:=0) (by omega)) λb4 o4 A4=>AF (A4.cell0 rfl) (iF (by rw[jO];simp) (rX K rfl (Bv (G.up (w':=S)) (KY (v:=n) (Qe _)) λb5 o5 A5=>AF (A5.cell0 rfl) ?_))))))));have a6:=rH (n:=n) (l:=l) λe L=>(F.lt e L).1;refine iF (by omega) (AA (xE (G.up (w':=S)) h2) ?_);rintro _ w4 ⟨rfl,e4⟩;refine Ap λM w5 n5 z5=>Ap λN w6 n6 z6=>?_;have b9:=n5.b;have c0:=n5.s;have c1:=n6.b;have c2:=n6.s;have c3:=e4.e.size;refine rS (z5.mv (w:=w6)) [.int .i64 (-1)] (HT _) λw7 V7 f7 _=>?_;have V7:Bk w7 M [.int .i64 (-1)] 3:=V7;refine rS (z6.fr f7 (by omega)) [.int .i64 0] (HT _) λU W8 f8 _=>?_;have W8:Bk U N [.int .i64 0] 3:=W8;have V8:=V7.fr f8 (by omega);have s8:AC w4 U:=⟨Fr.st (Fr.st (lE w4 w6) f7 (by omega)) f8 (by omega)⟩;clear z5 z6 V7;have c4:w6.heap.size<=U.heap.size:=by omega
 refine AA (pM (n:=n) (l:=l) (G.up (w':=U)) (Y.up (w':=U))) ?_;rintro _ w9 ⟨⟨b1,b2,rfl,D9,c5,c6⟩,e9⟩;have c7:=e9.e.size
 refine IS Aa rfl (gf:=207) (first:=[]) (cap:=[.pointer (some ⟨b1,0,none⟩),.pointer (some ⟨b2,0,none⟩)]) rfl rfl (oB (oa:=oa) (oc:=oc) (ta:=ta) (tc:=tc) F) tT
  (λi u=>Bk u bn [.int .i64 (n:Int)] 3/\Bk u M [.int .i64 (Gg l i).1] 3/\Bk u N [.int .i64 (Gg l i).2] 3/\Bk u br [.bool false] 4/\GM l n oa oc ta tc b1 b2 u/\AC w u)
  (λ_ _=>False) ?_ ?_ ?_ ⟨K.mv,V8.mv,W8.mv,z1.mv,D9,stp⟩ ?_ ?_ ?_
 ·rintro i u u' ⟨A,a2,C,E,r,O⟩ q;exact⟨A.qt q,a2.qt q,C.qt q,E.qt q,r.qt q,O.qt (q.mono (by omega))⟩
 ·rintro c u u' h;exact h.elim
 ·rintro i u ⟨_,_,_,_,r,_⟩;exact r
 ·rintro i y u V ⟨A,a2,C,E,r,O⟩;unfold Mo at V;rw[QK,Vo]at V;obtain⟨e,L,rfl⟩:=V;have Q:=Qy.1 L;obtain⟨hi,a0⟩:=Q;have a1:e∈l:=Jy L;have AY:=F.lt e a1;refine⟨Fr.refl _ _,λu1 q=>?_⟩;have A:=A.qt q;have a2:=a2.qt q;have C:=C.qt q;have E:=E.qt q;have r:=r.qt q;have O:=O.qt (q.mono (by omega));refine rX A rfl (rF (n - 1) (bS (e.t:Int) λb6 u2 e6 _ S6=>AA (vI S6 (by simp)) ?_));rintro _ d ⟨⟨rfl,_⟩|⟨rfl,a3⟩,e7⟩
  case' inr=>exact absurd (by intro x V;rw[Qc.1 V];omega) a3
  have H:¬((e.f:Int)=(Gg l i).1/\(e.t:Int)<=(Gg l i).2):=by
   rintro⟨Z,h2⟩
   cases i with
   |zero=>simp[Gg]at Z
   |succ i =>
    have W:i<l.length:=by omega
    have a4:Gg l (i+1)=(((l[i]).f:Int),((l[i]).t:Int)):=by simp[Gg,W]
    rw[a4]at Z h2;have:=QX.1 F.ris i (i+1) W hi (by omega);rw[a0]at this;unfold Dl at this;simp only at Z h2;omega
  refine rX a2 rfl (ite (λh5=>?_) (λh5=>?_))
  ·refine rX C rfl (ite (λh6=>absurd ⟨h5,h6⟩ H) (λh6=>?_));refine rS (a2.mv (w:=d)) [.int .i64 (e.f:Int)] (HT _) λu4 I o _=>?_;have I:Bk u4 M [.int .i64 (e.f:Int)] 3:=I;have X4:=(C.mv (w:=d)).fr o (by omega);refine rS X4 [.int .i64 (e.t:Int)] (HT _) λX J p _=>?_;have J:Bk X N [.int .i64 (e.t:Int)] 3:=J;have z:Gg l (i+1)=((e.f:Int),(e.t:Int)):=by simp[Gg,L]
   have s5:AC w X:=⟨Fr.st (Fr.st (lE w d) o (by omega)) p (by omega)⟩
   refine⟨⟨((A.mv (w:=d)).fr o (by omega)).fr p (by omega),by rw[z];exact I.fr p (by omega),by rw[z];exact J,((E.mv (w:=d)).fr o (by omega)).fr p (by omega),⟨G.up,Y.up,((r.bo.mv (w:=d)).fr o (by omega)).fr p (by omega),((r.bt.mv (w:=d)).fr o (by omega)).fr p (by omega)⟩,s5⟩,
    λi=>i=M\/i=N,((fE u1 d).trans (o.mono λi _ hi=>.inl hi)).trans (p.mono λi _ hi=>.inr hi)⟩
  ·refine rS (a2.mv (w:=d)) [.int .i64 (e.f:Int)] (HT _) λu4 I o _=>?_;have I:Bk u4 M [.int .i64 (e.f:Int)] 3:=I;have X4:=(C.mv (w:=d)).fr o (by omega);refine rS X4 [.int .i64 (e.t:Int)] (HT _) λX J p _=>?_;have J:Bk X N [.int .i64 (e.t:Int)] 3:=J;have z:Gg l (i+1)=((e.f:Int),(e.t:Int)):=by simp[Gg,L]
   have s5:AC w X:=⟨Fr.st (Fr.st (lE w d) o (by omega)) p (by omega)⟩
   refine⟨⟨((A.mv (w:=d)).fr o (by omega)).fr p (by omega),by rw[z];exact I.fr p (by omega),by rw[z];exact J,((E.mv (w:=d)).fr o (by omega)).fr p (by omega),⟨G.up,Y.up,((r.bo.mv (w:=d)).fr o (by omega)).fr p (by omega),((r.bt.mv (w:=d)).fr o (by omega)).fr p (by omega)⟩,s5⟩,
    λi=>i=M\/i=N,((fE u1 d).trans (o.mono λi _ hi=>.inl hi)).trans (p.mono λi _ hi=>.inr hi)⟩
 ·rintro D u ⟨A,a2,C,E,r,O⟩ c8 hd;have zz:=lz w w9;refine rS E [.bool true] (NX _) λu2 R2 f2 _=>?_;have R2:Bk u2 br [.bool true] 4:=R2;have a5:=f2.nc _ _ hd rfl;refine Fg a5 λu' q=>?_;have R3:=R2.qt (q 0 (by omega));have s2:AC w u2:=⟨Fr.st O.e f2 (by omega)⟩;refine FJ (B:=R3) rfl ?_;exact⟨rfl,s2.qt (q _ (by omega))⟩
 ·rintro c D u h;exact h.elim
instance:Gj PP 186 .u64:=⟨by kernel_rfl⟩
theorem zHv{c:Nat}{l:List Int}{t:Int}(h:AQ w (.slice a n c) l)(r:l.Pairwise (· < ·))(A:t∈l)(L:l.length<=1000000):
  Sp PP 144 #[.slice a n c,.int .i64 t] w λv w'=>(∃p:Nat,v=.tuple #[.int .i64 (p:Int),.bool true])/\AC w w':=by
 have b:=h.len;obtain rfl:=b;have b:=QI.1 A;obtain⟨p,s,rfl⟩:=b;refine eN ?_
 refine HG Aa 13 [9] 7 8 (λf o u=>∃i j:Nat,f=.int .i64 (i:Int)/\o=.int .i64 (j:Int)/\i<=p/\p<=j/\j<=l.length/\AC w u) (λf o _=>(Go.RowKit.intOf o).toNat - (Go.RowKit.intOf f).toNat) rfl
  ⟨0,l.length,rfl,rfl,by omega,by omega,Qe _,stp⟩ ?_
 rintro f o g u ⟨i,j,rfl,rfl,C,E,F,e⟩;refine ite (λAY=>?_) (λG=>?_)
 ·refine rF (i+j) (HR (z:=((i+j:Nat):Int)) (by simp[IntKind.wrap,IntKind.signed,IntKind.bits];omega) ?_);refine ZA ?_;refine HR (z:=(((i+j) / 2:Nat):Int)) (TR (by omega) (by omega)) ?_;have y:(i+j) / 2<l.length:=by omega
  refine Bv (h.up (w':=u)) (i:=(i+j) / 2) (x:=l[(i+j) / 2]) (by simp) λH I q=>AF (q.cell0 rfl) (AA wR ?_);rintro _ _ ⟨⟨rfl,h5⟩|⟨rfl,h5⟩,rfl⟩
  ·have:¬p<=(i+j) / 2:=λJ=>by
    have b:=QH p ((i+j) / 2);rcases b with d|d
    ·have:=QX.1 r p _ s y d;omega
    ·have K:p=(i+j) / 2:=by omega
     simp only[<-K]at h5;omega
   refine rF ((i+j) / 2+1) ⟨⟨(i+j) / 2+1,j,rfl,rfl,by omega,E,F,e⟩,?_⟩;show((j:Int)).toNat - ((((i+j) / 2+1:Nat):Int)).toNat<((j:Int)).toNat - ((i:Int)).toNat;omega
  ·have:p<=(i+j) / 2:=by
    have b:=QH ((i+j) / 2) p;rcases b with d|d
    ·have:=QX.1 r _ p y s d;omega
    ·exact d
   refine⟨⟨i,(i+j) / 2,rfl,rfl,C,this,by omega,e⟩,?_⟩;show((((i+j) / 2:Nat):Int)).toNat - ((i:Int)).toNat<((j:Int)).toNat - ((i:Int)).toNat;omega
 ·have b:i=p:=by omega
  obtain rfl:=b;refine ite (λ_=>?_) (λh=>absurd h (by omega));refine Bv (h.up (w':=u)) (x:=l[i]) (by simp) λH I q=>AF (q.cell0 rfl) (iT rfl ?_);exact⟨⟨i,rfl⟩,stp⟩
theorem zQG{r:List BP}(b:Kr g r){e:BP}(c:e∈g.es):(e.f:Int)∈Dc (Fk r e.t):=by
 unfold Dc;refine Qq.2 ⟨FN e,QC.2 ⟨b.1.mem_iff.2 (Qq.2 ⟨e,c,rfl⟩),?_⟩,rfl⟩;simp[FN]
theorem zQH{l:List BP}(h:l.Pairwise Dl)(v:Nat):(Dc (Fk l v)).Pairwise (· < ·):=by
 have:=uF h v;unfold Ht at this;unfold Dc;rw[QY]at this ⊢;exact this.imp λh=>by omega
theorem Tv{x:CP}{r:List BP}(G:Bb g)(R:IF w x g r):Sp PP 84 #[agg x] w λv w'=>v=.bool true/\AC w w':=by
 have H:=G.rowI;have M:=G.rowR R.rev';have l1:=R.off.len;have l2:=R.to.len;have l3:=R.rof.len;have l4:=R.rev.len;have q1:=Mk g.n g.es;have q2:=PL g.es;have q3:=Mk g.n r;have q4:=PL r;have I:=R.rev'.1.length_eq;have a0:=G.ok.n2;rw[Qr]at I;refine eN ?_;refine BM λbx w1 n1 d=>Ap λN O n2 z2=>?_;have a1:=n1.b;have a3:=n1.s;have a4:=n2.b;have a5:=n2.s;refine rX d rfl (rX d rfl ?_);refine iF (by omega) (rX d rfl (rX d rfl ?_));refine iF (by omega) (rX d rfl (rX d rfl ?_));refine AA (rP H (R.off.up (w':=O)) (R.to.up (w':=O))) ?_;rintro _ Q ⟨rfl,e3⟩;refine rX d rfl (rX d rfl ?_);refine AA (rP M (R.rof.up (w':=Q)) (R.rev.up (w':=Q))) ?_;rintro _ S ⟨rfl,e4⟩;refine rX d rfl (rX d rfl ?_);refine AA (pM (n:=g.n) (l:=g.es) (R.off.up (w':=S)) (R.to.up (w':=S))) ?_;rintro _ w5 ⟨⟨U,V,rfl,D5,a6,a7⟩,e5⟩;have W:=lz w w5
 refine IS Aa rfl (gf:=207) (first:=[]) (cap:=[.pointer (some ⟨U,0,none⟩),.pointer (some ⟨V,0,none⟩)]) rfl rfl (oB (oa:=x.off.a) (oc:=x.off.c) (ta:=x.to.a) (tc:=x.to.c) H) tT
  (λi u=>Bk u bx (enc x) 82/\Bk u N [.bool false] 4/\GM g.es g.n x.off.a x.off.c x.to.a x.to.c U V u/\AC w u)
  (λ_ _=>False) ?_ ?_ ?_ ⟨d.mv,z2.mv,D5,stp⟩ ?_ ?_ ?_
 ·rintro i u u' ⟨o,a2,z,A⟩ q;exact⟨o.qt q,a2.qt q,z.qt q,A.qt (q.mono W)⟩
 ·rintro c u u' h;exact h.elim
 ·rintro i u ⟨_,_,z,_⟩;exact z
 ·rintro i y u J ⟨o,a2,z,A⟩;unfold Mo at J;rw[QK,Vo]at J;obtain⟨e,he,rfl⟩:=J;have E:e∈g.es:=Jy he;have AY:=H.lt e E;refine⟨Fr.refl _ _,λu1 q=>?_⟩;have o:=o.qt q;have a2:=a2.qt q;have z:=z.qt q;have A:=A.qt (q.mono W);refine Nw TW mixed (λ_=>False) (Hn 21 0) (by kernel_rfl) λC d2 _=>?_;have X:=SQ r e.t;have a8:=Eh r (e.t+1);refine tX o rfl nf (tX o rfl nf ?_);refine CL (R.rof.up (w':=C)) (KY (v:=e.t) (by omega)) λb3 o3 A3 _=>AP (A3.cell0 rfl) nf (tX o rfl nf (rF (e.t+1) (CL (R.rof.up (w':=C)) (KY (v:=e.t+1) (by omega)) λb4 o4 A4 _=>AP (A4.cell0 rfl) nf ?_)));have Y:=R.rev.up (w':=C);refine Nl (Be r e.t) (Be r (e.t+1)) Y X (by omega) ?_;have F:=Y.part (Be r e.t) (Be r (e.t+1)) X (by omega);rw[U0 R.rev'.2 e.t]at F;refine AA (zHv (t:=(e.f:Int)) F (zQH R.rev'.2 _) (zQG R.rev' E) (by rw[PL];have:=Qv (λe'=>decide (e'.f=e.t)) r;have:=M.len;unfold Fk;omega)) ?_;rintro _ u3 ⟨⟨p,rfl⟩,e6⟩;refine⟨e6.e,?_⟩;exact⟨⟨o.mv,a2.mv,z.up,stp⟩,λ_=>False,lE u1 u3⟩
 ·rintro D u ⟨o,a2,z,A⟩ a9 hd;refine rS a2 [.bool true] (NX _) λC K Z _=>?_;have K:Bk C N [.bool true] 4:=K;have L:=Z.nc _ _ hd rfl;refine Fg L λu' q=>?_;have R3:=K.qt (q 0 (by omega));have s2:AC w C:=⟨Fr.st A.e Z (by omega)⟩;refine FJ (B:=R3) rfl ?_;exact⟨rfl,s2.qt (q _ (by omega))⟩
 ·rintro c D u h;exact h.elim
theorem tJ{x:CP}{r l:List BP}{no p:Nat}{oa:OA}{oc:Nat}{ta:OA}{tc v:Nat}(A:Bb g)(R:IF w x g r)(d:Px g.n l)(h:AQ w (.slice oa no oc) (Di g.n l))(q:AQ w (.slice ta p tc) (Dc l))(O:v<g.n):
  Sp PP 393 #[agg x,.slice oa no oc,.slice ta p tc,.int .i64 (v:Int)] w λC w'=>(∃s,C=.tuple #[s,.bool true]/\AD w.heap.size 3 w' s (AH (Ht l v)))/\AC w w':=by
 have Q:=h.len;have S:=q.len;have U:=Mk g.n l;have V:=PL l;have W:=d.n2;refine eN ?_;refine BM λbx w1 n1 E=>rG E x (AA (Tv A (R.up (w':=w1))) ?_);rintro _ X ⟨rfl,Y⟩;refine rF (g.n - 1) (bS (v:Int) λZ w3 e3 _ F=>AA (vI F (by simp)) ?_);rintro _ w4 ⟨⟨rfl,_⟩|⟨rfl,o⟩,e4⟩
 case' inr=>exact absurd (by intro x G;rw[Qc.1 G];omega) o
 refine dQ 14 λc e5=>?_;have t:=SQ l v;have H:=Eh l (v+1);refine CL (h.up (w':=c)) (KY (v:=v) (by omega)) λb6 o6 I _=>AP (I.cell0 rfl) nf (rF (v+1) (CL (h.up (w':=c)) (KY (v:=v+1) (by omega)) λb7 o7 J _=>AP (J.cell0 rfl) nf ?_));have y:=q.up (w':=c);refine Nl (Be l v) (Be l (v+1)) y t (by omega) ?_;have b:=y.part (Be l v) (Be l (v+1)) t (by omega);rw[U0 d.ris v]at b;refine AA (Ze b (by rw[PL];have:=Qv (λK=>decide (K.f=v)) l;have:=d.len;unfold Fk;omega)) ?_;rintro L w6 ⟨z,M⟩;refine⟨M.e,?_⟩;have N:Dc (Fk l v)=AH (Ht l v):=by unfold Dc AH Ht;rw[VM];rfl
 rw[N]at z;exact⟨⟨L,rfl,z.mono (lz w c)⟩,stp⟩
theorem zL2{x:CP}{r:List BP}{v:Nat}(d:Bb g)(R:IF w x g r)(f:v<g.n):
  Sp PP 370 #[agg x,.int .i64 (v:Int)] w λh w'=>(∃b,h=.tuple #[b,.bool true]/\AD w.heap.size 3 w' b (AH (Aj g 0 v)))/\AC w w':=by
 refine eN ?_;refine BM λbx w1 n1 c=>rG c x (rX c rfl (rX c rfl ?_));refine AA (tJ d (R.up (w':=w1)) d.rowI (R.off.up (w':=w1)) (R.to.up (w':=w1)) f) ?_;rintro _ l ⟨⟨b,rfl,e⟩,o⟩;rw[<-jK]at e;exact⟨⟨b,rfl,e.mono (lz w w1)⟩,stp⟩
theorem zNu{x:CP}{r:List BP}{v:Nat}(c:Bb g)(R:IF w x g r)(f:v<g.n):
  Sp PP 371 #[agg x,.int .i64 (v:Int)] w λh w'=>(∃b,h=.tuple #[b,.bool true]/\AD w.heap.size 3 w' b (AH (Aj g 1 v)))/\AC w w':=by
 refine eN ?_;refine BM λbx w1 n1 d=>rG d x (rX d rfl (rX d rfl ?_));refine AA (tJ c (R.up (w':=w1)) (c.rowR R.rev') (R.rof.up (w':=w1)) (R.rev.up (w':=w1)) f) ?_;rintro _ l ⟨⟨b,rfl,e⟩,o⟩;rw[<-eU c.er R.rev']at e;exact⟨⟨b,rfl,e.mono (lz w w1)⟩,stp⟩
end Go.W
