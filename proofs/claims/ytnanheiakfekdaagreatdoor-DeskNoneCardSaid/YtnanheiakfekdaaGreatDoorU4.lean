/-
  Proved here: parts of this claim.
  Conditions: told at each.
-/
import Derived.Lib.AtoiAll
import Derived.Lib.ItoaNum
import Derived.Lib.Join
import Derived.Lib.Split
import Derived.Lib.CountLaws
import Derived.Lib.IndexMore
import Derived.Shelf.Lays
import Derived.Shelf.LaysC
import Derived.Shelf.LaysM
import Derived.Test.YtnanheiakfekdaaGreatDoorProg
import Derived.Test.YtnanheiakfekdaaGreatDoorRows
import Derived.Shelf.Strings.Split
import Derived.Shelf.Strings.Cut
import Derived.Shelf.Strings.OnBuilder
import Derived.Shelf.Strconv.ErrVarAll
import Derived.Shelf.Strconv.Itoa3
import Derived.Shelf.Strings.BuilderX
import Derived.KernelRfl
import Derived.Test.YtnanheiakfekdaaGreatDoorU3
set_option maxHeartbeats 4000000
set_option linter.unusedVariables false
set_option linter.unusedSimpArgs false
namespace Go.W
open Go Go.Proofs
open AK (enc)
set_option maxRecDepth 10000
variable {B N i j k m n n2 n3:Nat} {P:Program} {a a2 a3:OA} {g:An} {ps:List Int} {q:FX} {s:U8} {u u' w w' w1 w2:World}
theorem zLe{x:AN}:Sp PP 322 #[agg x] w λv w'=>Ao (Dz x) v/\AC w w':=by
 refine eN ?_;refine BM λb w1 n1 d=>rG d x.key (rX d rfl (AJ (cs:=enc x) rfl (bS x λh w2 n2 _ e=>AA (jB e (by simp)) ?_)));rintro v l ⟨f,o⟩;have c:Ao (Dz x) v:=by simpa using f
 exact⟨c,stp⟩
def sN (a b:Al):Int:=Mv [Bl a.slot b.slot,Bl a.dir b.dir,Bl a.v b.v]
theorem vJ{x y:Al}:Sp PP 247 #[agg x,agg y] w λv w'=>v=.int .i64 (sN x y)/\Gw w w':=by
 refine eN ?_;refine BM λl w1 n1 b=>BM λbb w2 n2 c=>HO Aa mixed (λ_=>False) (.one 0 (.one 1 (.one 2 (.one 3 (.one 5 (.one 6 (.one 7 (.one 8 (.one 10 (.one 11 (.one 12 (.one 13 (.one 4 (.one 9 (.one 14 (.one 15 (.one 16 (.one 17 .nil)))))))))))))))))) (by kernel_rfl) λo p f=>?_;refine tX b rfl nf (tX c rfl nf ?_);refine tX b rfl nf (tX c rfl nf ?_);refine tX b rfl nf (tX c rfl nf ?_);refine AA Ms ?_;rintro v r ⟨rfl,rfl⟩;refine⟨Fr.refl _ _,?_⟩;refine AA Ms ?_;rintro v t ⟨rfl,rfl⟩;refine⟨Fr.refl _ _,?_⟩;refine AA Ms ?_;rintro v z ⟨rfl,rfl⟩;refine⟨Fr.refl _ _,?_⟩;refine OZ [Bl x.slot y.slot,Bl x.dir y.dir,Bl x.v y.v] rfl (vs:=[.int .i64 (Bl x.slot y.slot),.int .i64 (Bl x.dir y.dir),.int .i64 (Bl x.v y.v)]) rfl rfl (by decide) λA C d h=>⟨d.e,?_⟩;refine AA (XW h (by simp)) ?_;rintro v D ⟨rfl,rfl⟩;refine⟨Fr.refl _ _,?_⟩;exact⟨rfl,n1.gw.trans (n2.gw.trans (f.trans d.gw))⟩
theorem zND{x y:AN}:Sp PP 246 #[agg x,agg y] w λv w'=>v=.int .i64 (WH x y)/\Gw w w':=by
 refine eN ?_;refine BM λe w1 n1 b=>BM λbb w2 n2 c=>rG b x.key (rG c y.key (AA (vJ (x:=x.key) (y:=y.key)) ?_));rintro _ f ⟨rfl,d⟩;exact⟨rfl,n1.gw.trans (n2.gw.trans d)⟩
theorem zID{c:Nat}{S:List AN}{m:Int}(h:AQ w (.slice a n c) S)(hn:S.length<=100000)(G:CE S)(H:∀x∈S,Dz x/\x.key.v<m):
  Sp PP 239 #[.slice a n c,.int .i64 m] w λv w'=>v=.bool true/\AC w w':=by
 have f:=h.len;obtain rfl:=f;refine eN ?_;refine cN 9 [4,5,6] 9 S.length (λk u=>AC w u) stp ?_;rintro k g u hk I;refine ite (λAY=>?_) (λJ=>?_)
 ·have d:k<S.length:=by omega
  refine Bv (h.up (w':=u)) (x:=S[k]) (by simp) λb4 o4 K=>Ai K rfl (Ap λL M n5 O=>?_);have Q:=n5.b;have R:=n5.s;refine rE O (S[k]) λC l T _=>?_;have l:Bk C L (enc S[k]) 341:=l;have s6:AC u C:=⟨Fr.st (lE u M) T λi hi=>by omega⟩;have f:=H _ (Qa d);obtain⟨p,U⟩:=f;refine dQ 26 λu7 e7=>tG l (S[k]) nf (AA zLe ?_);rintro _ r ⟨⟨rfl,_⟩|⟨rfl,V⟩,W⟩
  case' inr=>exact absurd p V
  refine⟨W.e,?_⟩;refine tX l rfl nf (ite (λD=>absurd D (by omega)) (λD=>?_));refine ite (λt=>?_) (λt=>?_)
  ·have f:∃j,k=j+1:=⟨k - 1,by omega⟩;obtain⟨j,rfl⟩:=f;have z:j<S.length:=by omega
   refine rI (j:Int) (CL (i:=j) (h.up (w':=r)) (x:=S[j]) (by simp) λX Y Z _=>?_);have A:At r X Y (enc S[j].key):=Z.sub 0 3;refine Ch A rfl nf (tG l (S[j+1].key) nf (AA (vJ (x:=S[j].key) (y:=S[j+1].key)) ?_));rintro _ u9 ⟨rfl,g9⟩;have E:=g9.ext;refine⟨E,?_⟩;have s9:AC r u9:=⟨E⟩;have F:sN S[j].key S[j+1].key<0:=(dJ S[j] S[j+1]).2 (QX.1 G j (j+1) z d (by omega));refine ite (λo=>absurd o (by omega)) (λo=>?_);exact rA ⟨rfl,d,stp⟩
  ·refine rA ⟨rfl,d,stp⟩
 ·exact⟨rfl,I⟩
structure UF (w:World) (x:RQ) (q:FX):Prop where
 kind:x.kind=q.kind
 frm:x.frm=q.frm
 to:x.to=q.to
 ws:AQ w x.words.v q.words
 rad:x.rad=q.rad
 most:x.most=q.most
theorem UF.up[Le w w']{x:RQ}(h:UF w x q):UF w' x q:=⟨h.kind,h.frm,h.to,h.ws.up,h.rad,h.most⟩
theorem cE{l:List Nat}(h:k<l.length):(AH l)[k]? = some (l[k]:Int):=by simp[AH,h]
theorem cF(l:List Nat):(AH l).length=l.length:=by simp[AH]
theorem Zc(b:Bb g)(dir:Int)(v:Nat):(Aj g dir v).length<=2000:=by
 have:=b.ne;unfold Aj;split
 ·rw[Qr];exact Qw (Qv _ _) this
 ·rw[Qr];exact Qw (Qv _ _) this
def Cw (x:AN) (l:List Nat):List AN:=l.map λv:Nat=>⟨⟨x.key.slot,x.key.dir,v⟩,x.d+1⟩
theorem cH(x:AN){l:List Nat}(h:k<l.length):Cw x (l.take (k+1))=Cw x (l.take k)++[⟨⟨x.key.slot,x.key.dir,l[k]⟩,x.d+1⟩]:=by
 unfold Cw;rw[Cs h,QB];rfl
theorem zK5{xq:RQ}{D:CP}{r:List BP}{x:AN}(Y:Bb g)(R:IF w D g r)(W:xq.kind=q.kind/\xq.rad=q.rad)(hx:Dz x)(hd:x.key.dir=0\/x.key.dir=1)(hv:x.key.v<g.n):
  Sp PP 327 #[agg xq,agg D,agg x] w λv w'=>(∃Z,v=.tuple #[Z,.int .i64 0]/\AD w.heap.size 329 w' Z (CF g q x))/\AC w w':=by
 obtain⟨⟨a1,a4,a5,a6,a7⟩,a8,a9⟩:=hx;have t:∃b:Nat,x.key.v=(b:Int):=⟨x.key.v.toNat,by omega⟩;obtain⟨b,z⟩:=t;have a0:b<g.n:=by omega
 refine eN ?_;refine BM λbq w1 n1 B1=>BM λbr w2 n2 B2=>BM λbx w3 n3 o=>rX o rfl ?_;have b0:=Zc Y x.key.dir b
 have C:∀(u:World),AC w u->Sp PP (if x.key.dir=1 then 371 else 370) #[agg D,.int .i64 (b:Int)] u λrv w'=>(∃Z,rv=.tuple #[Z,.bool true]/\AD u.heap.size 3 w' Z (AH (Aj g x.key.dir b)))/\AC u w':=λu L=>by
  rcases hd with h|h
  ·rw[h,if_neg (by decide)];exact zL2 Y (R.up (w':=u)) a0
  ·rw[h,if_pos rfl];exact zNu Y (R.up (w':=u)) a0
 have b1:¬(x.key.dir≠0/\x.key.dir≠1):=by omega
 refine ite (λh1=>?_) (λh1=>?_)
 ·refine rG B2 D (Cx (B:=o) (v:=.int .i64 (b:Int)) (by rw[<-z];rfl) ?_);have H:=C w3 stp;rw[if_pos h1]at H;refine AA H ?_;rintro _ w4 ⟨⟨l9,rfl,O4⟩,e4⟩;refine rG B2 D (AA (Tv Y (R.up (w':=w4))) ?_);rintro _ f ⟨rfl,e5⟩;have A:=O4.up (w':=f);refine rX o rfl (ite (λX=>?_) (λX=>absurd X (by omega)));refine rX o rfl (iF (· h1) (rX o rfl (iF (by omega) (rX o rfl (iF (by omega) (rX B1 rfl (ite (λE=>?_) (λE=>?_))))))))
  ·refine rX o rfl (rX B1 rfl ?_);refine ite (λh4=>?_) (λh4=>?_)
   ·have p:CF g q x=[]:=by unfold CF;rw[if_pos ⟨by rw[<-W.1];exact E,by omega⟩]
    have ON:AD w.heap.size 329 f (.slice none 0 0) (CF g q x):=by rw[p];exact AD.nil _ _ _
    exact⟨⟨_,rfl,ON⟩,stp⟩
   ·have y:¬(q.kind=3/\q.rad<=x.d):=λh=>h4 (by rw[W.2];exact h.2)
    have p:CF g q x=Cw x (Aj g x.key.dir b):=by
     unfold CF Cw;rw[if_neg y,z];rfl
    have il:=cF (Aj g x.key.dir b);have t:=A.shape;obtain⟨la,lc,rfl⟩:=t;have F:=A.sl;refine cO 69 [13] 11 69 (Aj g x.key.dir b).length (λk v u=>AD f.heap.size 329 u v (Cw x ((Aj g x.key.dir b).take k))/\AC f u) ⟨AD.nil _ _ _,stp⟩ ?_;rintro k I G u J ⟨O,su⟩;refine ite (λAY=>?_) (λK=>?_)
    ·have c:k<(Aj g x.key.dir b).length:=by omega
     refine Bv (F.up (w':=u)) (i:=k) (x:=((Aj g x.key.dir b)[k]:Int)) (cE c) λb6 o6 M=>AF (M.cell0 rfl) (rX o rfl (rX o rfl ?_));refine AJ (cs:=enc (⟨x.key.slot,x.key.dir,(Aj g x.key.dir b)[k]⟩:Al)) rfl (rX o rfl (rA (AJ (cs:=enc (⟨⟨x.key.slot,x.key.dir,(Aj g x.key.dir b)[k]⟩,x.d+1⟩:AN)) rfl (bS (⟨⟨x.key.slot,x.key.dir,(Aj g x.key.dir b)[k]⟩,x.d+1⟩:AN) λb7 Q n7 _ S=>Ax (u:=f) ⟨rfl,rfl⟩ (O.up (w':=Q)) S (by unfold Cw;simp;omega) λT U V f8 s8=>?_))));have e:AD f.heap.size 329 U T (Cw x ((Aj g x.key.dir b).take (k+1))):=by rw[cH x c];exact V
     exact rA ⟨rfl,c,e,stp⟩
    ·have t:k=(Aj g x.key.dir b).length:=by omega
     obtain rfl:=t;have e:AD w.heap.size 329 u I (CF g q x):=by rw[p,<-Qg (l:=Aj g x.key.dir b)];exact O.mono (lz w f)
     exact⟨⟨_,rfl,e⟩,stp⟩
  ·have y:¬(q.kind=3/\q.rad<=x.d):=λh=>E (by rw[W.1];exact h.1)
   have p:CF g q x=Cw x (Aj g x.key.dir b):=by
    unfold CF Cw;rw[if_neg y,z];rfl
   have il:=cF (Aj g x.key.dir b);have t:=A.shape;obtain⟨la,lc,rfl⟩:=t;have F:=A.sl;refine cO 69 [13] 11 69 (Aj g x.key.dir b).length (λk v u=>AD f.heap.size 329 u v (Cw x ((Aj g x.key.dir b).take k))/\AC f u) ⟨AD.nil _ _ _,stp⟩ ?_;rintro k I G u J ⟨O,su⟩;refine ite (λAY=>?_) (λK=>?_)
   ·have c:k<(Aj g x.key.dir b).length:=by omega
    refine Bv (F.up (w':=u)) (i:=k) (x:=((Aj g x.key.dir b)[k]:Int)) (cE c) λb6 o6 M=>AF (M.cell0 rfl) (rX o rfl (rX o rfl ?_));refine AJ (cs:=enc (⟨x.key.slot,x.key.dir,(Aj g x.key.dir b)[k]⟩:Al)) rfl (rX o rfl (rA (AJ (cs:=enc (⟨⟨x.key.slot,x.key.dir,(Aj g x.key.dir b)[k]⟩,x.d+1⟩:AN)) rfl (bS (⟨⟨x.key.slot,x.key.dir,(Aj g x.key.dir b)[k]⟩,x.d+1⟩:AN) λb7 Q n7 _ S=>Ax (u:=f) ⟨rfl,rfl⟩ (O.up (w':=Q)) S (by unfold Cw;simp;omega) λT U V f8 s8=>?_))));have e:AD f.heap.size 329 U T (Cw x ((Aj g x.key.dir b).take (k+1))):=by rw[cH x c];exact V
    exact rA ⟨rfl,c,e,stp⟩
   ·have t:k=(Aj g x.key.dir b).length:=by omega
    obtain rfl:=t;have e:AD w.heap.size 329 u I (CF g q x):=by rw[p,<-Qg (l:=Aj g x.key.dir b)];exact O.mono (lz w f)
    exact⟨⟨_,rfl,e⟩,stp⟩
 ·refine rG B2 D (Cx (B:=o) (v:=.int .i64 (b:Int)) (by rw[<-z];rfl) ?_);have H:=C w3 stp;rw[if_neg h1]at H;refine AA H ?_;rintro _ w4 ⟨⟨l9,rfl,O4⟩,e4⟩;refine rG B2 D (AA (Tv Y (R.up (w':=w4))) ?_);rintro _ f ⟨rfl,e5⟩;have A:=O4.up (w':=f);refine rX o rfl (iF (by omega) (rX o rfl (iF (by omega) (rX o rfl (iF (by omega) (rX B1 rfl (ite (λE=>?_) (λE=>?_))))))))
  ·refine rX o rfl (rX B1 rfl ?_);refine ite (λh4=>?_) (λh4=>?_)
   ·have p:CF g q x=[]:=by unfold CF;rw[if_pos ⟨by rw[<-W.1];exact E,by omega⟩]
    have ON:AD w.heap.size 329 f (.slice none 0 0) (CF g q x):=by rw[p];exact AD.nil _ _ _
    exact⟨⟨_,rfl,ON⟩,stp⟩
   ·have y:¬(q.kind=3/\q.rad<=x.d):=λh=>h4 (by rw[W.2];exact h.2)
    have p:CF g q x=Cw x (Aj g x.key.dir b):=by
     unfold CF Cw;rw[if_neg y,z];rfl
    have il:=cF (Aj g x.key.dir b);have t:=A.shape;obtain⟨la,lc,rfl⟩:=t;have F:=A.sl;refine cO 69 [13] 11 69 (Aj g x.key.dir b).length (λk v u=>AD f.heap.size 329 u v (Cw x ((Aj g x.key.dir b).take k))/\AC f u) ⟨AD.nil _ _ _,stp⟩ ?_;rintro k I G u J ⟨O,su⟩;refine ite (λAY=>?_) (λK=>?_)
    ·have c:k<(Aj g x.key.dir b).length:=by omega
     refine Bv (F.up (w':=u)) (i:=k) (x:=((Aj g x.key.dir b)[k]:Int)) (cE c) λb6 o6 M=>AF (M.cell0 rfl) (rX o rfl (rX o rfl ?_));refine AJ (cs:=enc (⟨x.key.slot,x.key.dir,(Aj g x.key.dir b)[k]⟩:Al)) rfl (rX o rfl (rA (AJ (cs:=enc (⟨⟨x.key.slot,x.key.dir,(Aj g x.key.dir b)[k]⟩,x.d+1⟩:AN)) rfl (bS (⟨⟨x.key.slot,x.key.dir,(Aj g x.key.dir b)[k]⟩,x.d+1⟩:AN) λb7 Q n7 _ S=>Ax (u:=f) ⟨rfl,rfl⟩ (O.up (w':=Q)) S (by unfold Cw;simp;omega) λT U V f8 s8=>?_))));have e:AD f.heap.size 329 U T (Cw x ((Aj g x.key.dir b).take (k+1))):=by rw[cH x c];exact V
     exact rA ⟨rfl,c,e,stp⟩
    ·have t:k=(Aj g x.key.dir b).length:=by omega
     obtain rfl:=t;have e:AD w.heap.size 329 u I (CF g q x):=by rw[p,<-Qg (l:=Aj g x.key.dir b)];exact O.mono (lz w f)
     exact⟨⟨_,rfl,e⟩,stp⟩
  ·have y:¬(q.kind=3/\q.rad<=x.d):=λh=>E (by rw[W.1];exact h.1)
   have p:CF g q x=Cw x (Aj g x.key.dir b):=by
    unfold CF Cw;rw[if_neg y,z];rfl
   have il:=cF (Aj g x.key.dir b);have t:=A.shape;obtain⟨la,lc,rfl⟩:=t;have F:=A.sl;refine cO 69 [13] 11 69 (Aj g x.key.dir b).length (λk v u=>AD f.heap.size 329 u v (Cw x ((Aj g x.key.dir b).take k))/\AC f u) ⟨AD.nil _ _ _,stp⟩ ?_;rintro k I G u J ⟨O,su⟩;refine ite (λAY=>?_) (λK=>?_)
   ·have c:k<(Aj g x.key.dir b).length:=by omega
    refine Bv (F.up (w':=u)) (i:=k) (x:=((Aj g x.key.dir b)[k]:Int)) (cE c) λb6 o6 M=>AF (M.cell0 rfl) (rX o rfl (rX o rfl ?_));refine AJ (cs:=enc (⟨x.key.slot,x.key.dir,(Aj g x.key.dir b)[k]⟩:Al)) rfl (rX o rfl (rA (AJ (cs:=enc (⟨⟨x.key.slot,x.key.dir,(Aj g x.key.dir b)[k]⟩,x.d+1⟩:AN)) rfl (bS (⟨⟨x.key.slot,x.key.dir,(Aj g x.key.dir b)[k]⟩,x.d+1⟩:AN) λb7 Q n7 _ S=>Ax (u:=f) ⟨rfl,rfl⟩ (O.up (w':=Q)) S (by unfold Cw;simp;omega) λT U V f8 s8=>?_))));have e:AD f.heap.size 329 U T (Cw x ((Aj g x.key.dir b).take (k+1))):=by rw[cH x c];exact V
    exact rA ⟨rfl,c,e,stp⟩
   ·have t:k=(Aj g x.key.dir b).length:=by omega
    obtain rfl:=t;have e:AD w.heap.size 329 u I (CF g q x):=by rw[p,<-Qg (l:=Aj g x.key.dir b)];exact O.mono (lz w f)
    exact⟨⟨_,rfl,e⟩,stp⟩
def Uu (p:List Nat×List (U8)):U8:=Ll p.1++(AL p.2.length++p.2.flatMap λx=>AL x.length++x)
def Lw (l:List ByteArray):U8:=AL l.length++l.flatMap DZ
def Wz (g:An) (v:Nat):U8:=Ll (Aj g 0 v)++Lw (g.ws.getD v [])
def Mf (g:An) (k:Nat):U8:=[119,103]++AL g.n++(List.range k).flatMap (Wz g)
theorem RL:∀(b:List (List Nat)) (k v:Nat),((BE k b).filter λe=>e.f==v).map (·.t)=if v<k then[] else b.getD (v - k) []
 |[],k,v=>by simp[BE]
 |l::b,k,v=>by
  rw[BE,QV,QB,RL b (k+1) v]
  have c:((l.map λt=>(⟨k,t⟩:BP)).filter λe=>e.f==v).map (·.t)=if k=v then l else[]:=by
   by_cases h:k=v
   ·rw[if_pos h,JH.2 (by simp_all),VM];exact List.map_id l
   ·rw[if_neg h,JA.2 (by simp_all)];rfl
  rw[c];have d:=VG v k;rcases d with h|h|h
  ·rw[if_neg (by omega),if_pos (by omega),if_pos h];rfl
  ·rw[if_pos h.symm,if_pos (by omega),if_neg (by omega),h,JN];simp
  ·rw[if_neg (by omega),if_neg (by omega),if_neg (by omega),show v - k=(v - (k+1))+1 by omega];simp
theorem zNd{α b:Type}(f:α->List b)(d:α)(l:List α):(List.range l.length).flatMap (λv=>f (l.getD v d))=l.flatMap f:=by
 have:(List.range l.length).map (λv=>l.getD v d)=l:=by
  apply Xg
  ·simp
  ·intro i e c;simp[c]
 conv=>rhs;rw[<-this]
 rw[XJ]
theorem WI{ps:List (List Nat×List (U8))}(h:ps.length=n):Mf (Lv n ps) n=[119,103]++AL n++ps.flatMap Uu:=by
 unfold Mf;rw[<-zNd Uu ([],[]) ps,h];congr 1;rw[List.flatMap_def,List.flatMap_def];congr 1;apply Ja;intro v b;have b:=Q0.1 b;have c:ps[v]?.getD ([],[])=ps[v]:=by simp_all
 have d:Aj (Lv n ps) 0 v=ps[v].1:=by
  have:=RL (ps.map (·.1)) 0 v;unfold Aj;rw[if_neg (by decide)];show((BE 0 (ps.map (·.1))).filter λe=>e.f==v).map (·.t)=_;rw[this,if_neg (by omega),JF,Qk,QK,Qd (by omega)];rfl
 have l:(Lv n ps).ws.getD v []=ps[v].2.map AS:=by
  show(ps.map λp=>p.2.map AS).getD v []=_;rw[Qk,QK,Qd (by omega)];rfl
 rw[Qk,c];unfold Wz Uu Lw;rw[d,l,Qr,XJ];rfl
theorem aQ{α b:Type}{f:α->List b}{l:List α}(h:∀x∈l,(f x).length<=m):(l.flatMap f).length<=l.length*m:=by
 induction l with
 |nil=>simp
 |cons x r c =>
  rw[JV,Qb,QA,Jo];have:=h x (by simp);have:=c λy d=>h y (by simp[d]);omega
section
variable {g:An}
theorem t1(b:Bb g)(v:Nat):(Ll (Aj g 0 v)).length<=10005:=by
 have d:=Zc b 0 v;have e:=LH (n:=(Aj g 0 v).length) (by omega);have f:=qN (l:=Aj g 0 v) λx c=>by have:=IX b.ok c;have:=b.ok.n2;omega
 unfold Ll;rw[Qb];omega
theorem UM(c:Bb g){v:Nat}{s:ByteArray}(h:s∈(g.ws.getD v []).take j):s.size<=12:=by
 have h:=Vu h;rw[Qk]at h;have d:=QH v g.ws.length;rcases d with b|b
 ·rw[Qd b]at h;exact((c.word _ (Qa b)).2 s h).2.2
 ·rw[Jg b]at h;cases h
theorem uI(b:Bb g)(v j:Nat)(d:j<=8):(((g.ws.getD v []).take j).flatMap DZ).length<=200:=by
 have h:=aQ (f:=DZ) (m:=17) (l:=(g.ws.getD v []).take j) λs c=>by
  have e:=UM b c;have o:s.data.toList.length=s.size:=Vc;have:=LH (n:=s.size) (by omega);unfold DZ;rw[Qb];omega
 have:((g.ws.getD v []).take j).length<=8:=by rw[Qm];omega
 have:=Ji 17 this;omega
theorem Pj(c:Bb g)(v:Nat):(g.ws.getD v []).length<=8:=by
 rw[Qk];have d:=QH v g.ws.length;rcases d with b|b
 ·rw[Qd b];exact(c.word _ (Qa b)).1
 ·rw[Jg b];simp
theorem fG(b:Bb g)(e:k<=g.n):(Mf g k).length<=3000000:=by
 have h:=aQ (f:=Wz g) (m:=10300) (l:=List.range k) λv _=>by
  have o:=t1 b v;have c:=Pj b v;have d:=uI b v 8 (by omega);have p:=LH (n:=(g.ws.getD v []).length) (by omega);rw[Qj c]at d;unfold Wz Lw;rw[Qb,Qb];omega
 rw[Vm]at h;have:=b.ok.n2;have:=LH (n:=g.n) (by omega);have h5:k*10300<=200*10300:=Ji _ (by omega);unfold Mf;rw[Qb,Qb];simp only[QA,QZ];omega
end
theorem zI(g:An)(k:Nat):Mf g (k+1)=Mf g k++Wz g k:=by
 unfold Mf;rw[Jm,Jl];simp
def MQ (d:Bt):U8:=if d.kind=4 then[] else if d.kind=3 then AL d.q.frm.toNat++(Lw d.q.words++(AL d.q.rad.toNat++AL d.q.most.toNat)) else AL d.q.frm.toNat++AL d.q.to.toNat
def Fy (d:Bt):U8:=AL d.id.toNat++(AL d.kind.toNat++MQ d)
theorem Ow(s:ByteArray):AS s.data.toList=s:=by
 unfold AS;rw[Jz]
theorem x9{s:ByteArray}(h:s.size<=4000)(t:U8):GT (DZ s++t)=some (s.data.toList,t):=by
 have b:s.data.toList.length=s.size:=Vc;unfold DZ GT;rw[Qp,NM (by omega)];simp only;rw[if_pos ⟨h,by simp⟩,<-b,V6,V0]
theorem nA:∀(l:List ByteArray) (t:U8),(∀s∈l,s.size<=4000)->Ae GT l.length (l.flatMap DZ++t)=some (l.map λs=>s.data.toList,t)
 |[],t,_=>by simp[Ae]
 |s::r,t,h=>by
  rw[JV,Qp,QA];simp only[Ae];rw[x9 (h s (by simp))];simp only;rw[nA r t λy b=>h y (by simp[b])];rfl
theorem zPn{l:List ByteArray}(t:U8)(b:l.length<=8)(h:∀s∈l,s.size<=4000):EM (Lw l++t)=some (l.map λs=>s.data.toList,t):=by
 unfold Lw EM;rw[Qp,NM (by omega)];simp only;rw[if_pos b,nA l t h]
theorem WM{d:Bt}(hd:Eo d):Dp (Fy d)=some d:=by
 have A:=hd;obtain⟨D,⟨E,F⟩,f⟩:=hd;obtain⟨id,kind,⟨r,t,qt,h,v,z⟩⟩:=d;dsimp only at D E F f;have c:∃i:Nat,id=(i:Int):=⟨id.toNat,by omega⟩;obtain⟨i,rfl⟩:=c
 have l:Mh (Fy ⟨(i:Int),kind,⟨r,t,qt,h,v,z⟩⟩)=some (⟨(i:Int),kind,⟨r,t,qt,h,v,z⟩⟩,[]):=by
  unfold Fy Mh;simp only[QW];rw[NM (by omega)];simp only;rcases D with rfl|⟨rfl,G,⟨H,I⟩,C,o⟩
  ·rw[if_pos rfl]at f;rw[show((4:Int)).toNat=4 from rfl,NM (by omega)];simp only;rw[if_pos (by omega),if_pos (by trivial)];unfold MQ;rw[if_pos rfl,f]
  ·dsimp only at G H I C o;have c:∃a:Nat,t=(a:Int):=⟨t.toNat,by omega⟩;obtain⟨a,rfl⟩:=c;have c:∃k:Nat,r=(k:Int):=⟨r.toNat,by omega⟩;obtain⟨k,rfl⟩:=c;have p:¬((k:Int)=4):=by omega
   rw[if_neg p]at f;unfold MQ;simp only[QW];rw[if_neg p,NM (by omega)];simp only;rw[if_pos (by omega),if_neg (by omega)];by_cases e:(k:Int)=3
   ·rw[if_pos e]at f ⊢;have o:=o e;have c:∃x:Nat,v=(x:Int):=⟨v.toNat,by omega⟩;obtain⟨x,rfl⟩:=c;have c:∃y:Nat,z=(y:Int):=⟨z.toNat,by omega⟩;obtain⟨y,rfl⟩:=c;subst f;unfold Kq;simp only[QW];rw[NM (by omega)];simp only;rw[if_neg (by omega),zPn _ o.1.2 (λs J=>by have:=(o.2.2.2 s J).2.2;omega)];simp only;rw[NM (by omega)];simp only;rw[show AL y=AL y++[] by simp,NM (by omega)];simp only;rw[VM]
    have K:h.map (AS ∘ λs=>s.data.toList)=h:=by
     conv=>rhs;rw[<-List.map_id h]
     apply Ja;intro s _;exact Ow s
    rw[K,e]
   ·rw[if_neg e]at f ⊢;have C:=C (by omega);have c:∃b:Nat,qt=(b:Int):=⟨qt.toNat,by omega⟩;obtain⟨b,rfl⟩:=c;obtain⟨L,M,O⟩:=f;subst L M O;unfold Kq;simp only[QW];rw[NM (by omega)];simp only;rw[if_pos (by omega),show AL b=AL b++[] by simp,NM (by omega)]
 unfold Dp;rw[l];simp only;rw[if_pos A]
open Go
def U1 (g:An) (u v:Nat):Prop:=(⟨u,v⟩:BP)∈g.es
def HC (g:An):Nat->Nat->Nat->Prop
 |0,u,v=>u=v
 |k+1,u,v=>∃m,U1 g u m/\HC g k m v
def LS (g:An) (u v k:Nat):Prop:=HC g k u v/\∀j,j<k->¬HC g j u v
section
variable {g:An} {q:FX}
theorem tY{u v:Nat}:v∈Aj g 0 u↔U1 g u v:=by
 unfold Aj U1;rw[if_neg (by decide)];simp only[Qq,QC,beq_iff_eq];constructor
 ·rintro⟨e,⟨b,c⟩,rfl⟩;subst c;exact b
 ·intro h;exact⟨_,⟨h,rfl⟩,rfl⟩
theorem uG{u v:Nat}:u∈Aj g 1 v↔U1 g u v:=by
 unfold Aj U1;rw[if_pos rfl];simp only[Qq,QC,beq_iff_eq];constructor
 ·rintro⟨e,⟨b,c⟩,rfl⟩;subst c;exact b
 ·intro h;exact⟨_,⟨h,rfl⟩,rfl⟩
theorem HC.app:∀{a b u m v:Nat},HC g a u m->HC g b m v->HC g (a+b) u v
 |0,b,u,m,v,h,k=>by rw[JO];cases (h:u=m);exact k
 |a+1,b,u,m,v,h,k=>by
  obtain⟨z,c,d⟩:=h;rw[Nat.add_right_comm];exact⟨z,c,HC.app d k⟩
theorem HC.cut:∀{a b u v:Nat},HC g (a+b) u v->∃m,HC g a u m/\HC g b m v
 |0,b,u,v,h=>⟨u,rfl,by simp_all⟩
 |a+1,b,u,v,h=>by
  rw[Nat.add_right_comm]at h;obtain⟨z,c,d⟩:=h;have e:=HC.cut d;obtain⟨m,f,l⟩:=e;exact⟨m,⟨z,c,f⟩,l⟩
theorem HC.one{u v:Nat}:HC g 1 u v↔U1 g u v:=by simp[HC,U1]
theorem LS.uniq{u v a b:Nat}(h:LS g u v a)(k:LS g u v b):a=b:=by
 have d:=VG a b;rcases d with c|c|c
 ·exact(k.2 a c h.1).elim
 ·exact c
 ·exact(h.2 b c k.1).elim
theorem LS.mid{u v a b:Nat}(h:LS g u v (a+b)):∃m,LS g u m a/\LS g m v b:=by
 have f:=h.1.cut;obtain⟨m,d,e⟩:=f;exact⟨m,⟨d,λj l c=>h.2 (j+b) (by omega) (c.app e)⟩,⟨e,λj l c=>h.2 (a+j) (by omega) (d.app c)⟩⟩
end
def qq (f t:Nat):FX:=⟨1,(f:Int),(t:Int),[],0,0⟩
section
variable {g:An} {f t:Nat} {dir:Int} {d:Nat} {lev:List Int} {fr l:List Nat}
def IU (lev:List Int) (P:List Nat):List Nat:=P.foldl (λl w=>if lev.getD w 0<0/\w∉l then l++[w] else l) []
theorem uT(lev:List Int)(P:List Nat)(w:Nat):IU lev (P++[w])=if lev.getD w 0<0/\w∉IU lev P then IU lev P++[w] else IU lev P:=by
 unfold IU;rw[VF];rfl
structure Ny (lev:List Int) (P l:List Nat) (m:List (Int×Value)):Prop where
 nd:l.Nodup
 mem:∀w,w∈l↔w∈P/\∃x,lev[w]? = some x/\x<0
 map:∀w:Nat,Au m (w:Int)=if w∈l then some (.bool true) else none
 eq:l=IU lev P
theorem Ny.skip{P:List Nat}{m:List (Int×Value)}{w:Nat}(I:Ny lev P l m)(h:w∈l\/¬∃x,lev[w]? = some x/\x<0):Ny lev (P++[w]) l m:=by
 refine⟨I.nd,λz=>?_,I.map,?_⟩
 rotate_left
 ·rw[uT,<-I.eq,if_neg];rintro⟨b,c⟩;rcases h with h|h
  ·exact c h
  ·rw[Qk]at b
   cases e:lev[w]? with
   |none=>rw[e]at b;exact absurd b (by decide)
   |some x=>rw[e]at b;exact h ⟨x,e,b⟩
 rw[I.mem,Qf,Qc];constructor
 ·rintro⟨b,c⟩;exact⟨.inl b,c⟩
 ·rintro⟨b|rfl,c⟩
  ·exact⟨b,c⟩
  ·rcases h with h|h
   ·exact(I.mem z).1 h
   ·exact absurd c h
theorem Ny.add{P:List Nat}{m:List (Int×Value)}{w:Nat}(I:Ny lev P l m)(h:w∉l)(p:∃x,lev[w]? = some x/\x<0):Ny lev (P++[w]) (l++[w]) (CW (w:Int) (.bool true) m):=by
 refine⟨?_,λz=>?_,λz=>?_,?_⟩
 rotate_right
 ·rw[uT,<-I.eq,if_pos];obtain⟨x,c,o⟩:=p;exact⟨by rw[Qk,c];exact o,h⟩
 ·rw[JU];refine⟨I.nd,by simp,λa r b hb e=>?_⟩;rw[Qc.1 hb]at e;exact h (e ▸ r)
 ·rw[Qf,Qf,I.mem,Qc];constructor
  ·rintro(⟨c,o⟩|rfl)
   ·exact⟨.inl c,o⟩
   ·exact⟨.inr rfl,p⟩
  ·rintro⟨c|rfl,o⟩
   ·exact .inl ⟨c,o⟩
   ·exact .inr rfl
 ·rw[bA,I.map];by_cases e:(z:Int)=(w:Int)
  ·have:z=w:=by omega
   subst this;rw[if_pos rfl,if_pos (JJ _ (by simp))]
  ·rw[if_neg e];have:z≠w:=by omega
   simp[this]
theorem Ny.nil:Ny lev [] [] []:=⟨List.nodup_nil,by simp,by simp[pS],rfl⟩
def CT (x:Int) (l:List Nat) (lev:List Int):List Int:=l.foldl (λL w=>L.set w x) lev
theorem ZM(x:Int):∀(l:List Nat) (lev:List Int),(CT x l lev).length=lev.length:=by intro a;induction a<;>simp_all[CT]
theorem iD(x:Int):∀(l:List Nat) (lev:List Int) (v:Nat),v<lev.length->(CT x l lev)[v]? = if v∈l then some x else lev[v]?
 |[],_,_,_=>by simp[CT]
 |w::r,lev,v,h=>by
  show(CT x r (lev.set w x))[v]? = _;rw[iD x r _ v (by simp_all)];by_cases b:v∈r
  ·rw[if_pos b,if_pos (QF _ b)]
  ·rw[if_neg b,Vw];by_cases c:w=v
   ·subst c;simp[h]
   ·rw[if_neg c,if_neg (by simp;exact⟨λe=>c e.symm,b⟩)]
theorem zL3(x:Int)(l:List Nat)(w:Nat)(lev:List Int):CT x (l++[w]) lev=(CT x l lev).set w x:=by unfold CT;rw[VF];rfl
end
abbrev Tx:=U8
def Bj (y:UInt8):Tx->List Tx
 |[]=>[[]]
 |c::r=>if c=y then[]::Bj y r else match Bj y r with
  |[]=>[[c]]
  |p::q=>(c::p)::q
def AE (s:Tx):List Tx:=if s=[] then[] else Bj 10 (if s.getLast? = some 10 then s.dropLast else s)
theorem aT(y:UInt8)(s:Tx):Bj y s≠[]:=by
 cases s with
 |nil=>simp[Bj]
 |cons c r =>
  unfold Bj;split
  ·simp
  ·split<;>simp
theorem aK{y:UInt8}:∀{a:Tx},y∉a->Bj y a=[a]
 |[],_=>rfl
 |c::r,h=>by
  rw[Ql,not_or]at h;unfold Bj;rw[if_neg (λe=>h.1 e.symm),aK h.2]
theorem Yb{y:UInt8}:∀{a r:Tx},y∉a->Bj y (a++y::r)=a::Bj y r
 |[],r,_=>by show Bj y (y::r)=_;unfold Bj;rw[if_pos rfl];cases r<;>rfl
 |c::a,r,h=>by
  rw[Ql,not_or]at h;show Bj y (c::(a++y::r))=_;rw[Bj,if_neg (λe=>h.1 e.symm),Yb h.2]
theorem xQ(a:Tx)(x c:UInt8)(r:Tx):(a++x::c::r).getLast? = (c::r).getLast?:=by
 rw[List.getLast?_append,List.getLast?_cons_cons]
 cases h:(c::r).getLast? with
 |none=>simp at h
 |some y=>rfl
theorem Zx{a r:Tx}(h:(10:UInt8)∉a):AE (a++10::r)=a::AE r:=by
 unfold AE;rw[if_neg (by simp)]
 cases r with
 |nil =>
  rw[if_pos rfl,if_pos (by simp),List.dropLast_concat,aK h]
 |cons c r =>
  rw[if_neg (by simp:¬c::r=[])];have b:=xQ a 10 c r;have d:(a++10::c::r).dropLast=a++10::(c::r).dropLast:=by simp
  rw[b];split
  ·rw[d,Yb h]
  ·rw[Yb h]
theorem xS{a:Tx}(h:(10:UInt8)∉a)(b:a≠[]):AE a=[a]:=by
 unfold AE;rw[if_neg b,if_neg (λe=>h (List.mem_of_getLast? e)),aK h]
theorem zNY:∀{a b:Tx},a=[]\/a.getLast? = some 10->AE (a++b)=AE a++AE b:=by
 have d:∀n (a b:Tx),a.length<=n->(a=[]\/a.getLast? = some 10)->AE (a++b)=AE a++AE b:=by
  intro n
  induction n with
  |zero=>intro a b h _;have:a=[]:=Qn (by omega);subst this;rfl
  |succ n f =>
   intro a b l h;rcases h with rfl|h
   ·rfl
   ·have o:(10:UInt8)∈a:=List.mem_of_getLast? h;have p:=List.eq_append_cons_of_mem o;obtain⟨x,r,rfl,e⟩:=p;rw[Qp,VO,Zx e,Zx e,VO];congr 1;refine f r b (by simp at l;omega) ?_
    cases r with
    |nil=>exact .inl rfl
    |cons c r=>exact .inr (by simp_all)
 exact λ{a b} h=>d _ a b (Qe _) h
def Bx (s:Tx):Option Int:=match Lib.atoiAll s with
 |.ok v=>if 0<=v/\v<=1000000/\s.length<=7/\Lib.itoa v=s then some v else none
 |_=>none
def Do (s : Tx) : Option Int := if [45] <+: s then(match Bx (s.drop 1) with
    | some n => if 0 < n then some (-n) else none
    | none => none) else Bx s
theorem WZ{s:Tx}{n:Int}(h:Bx s=some n):0<=n/\n<=1000000:=by
 unfold Bx at h;split at h
 ·split at h
  ·rename_i b;cases h;exact⟨b.1,b.2.1⟩
  ·cases h
 ·cases h
def BJ (least:Tx) (texts:Bool):Nat->List Tx->Option (List Int×List Tx)
 |_,[]=>some ([],[])
 |i,s::r =>
  if(i<least.length/\least[i]? = some 116)\/(least.length<=i/\texts=true) then(BJ least texts (i+1) r).map λp=>(p.1,s::p.2)
  else match (if least.length<=i then Do s else Bx s) with
   |none=>none
   |some x=>(BJ least texts (i+1) r).map λp=>(x::p.1,p.2)
def Bf (least:Tx) (texts picks:Bool) (l:List Tx):Option (List Int×List Tx):=
 if l.length<least.length\/(least.length<l.length/\texts=false/\picks=false) then none else BJ least texts 0 l
inductive Ln where
 |graph|edge|word|path|hubs|server|dist|reach|near|cancel|tick|live|held|waits
deriving DecidableEq
def Pb:List Ln:=[.graph,.edge,.word,.path,.hubs,.server,.dist,.reach,.near,.cancel,.tick,.live,.held,.waits]
def AZ:Ln->Tx
 |.graph=>[103,114,97,112,104]
 |.edge=>[101,100,103,101]
 |.word=>[119,111,114,100]
 |.path=>[112,97,116,104]
 |.hubs=>[104,117,98,115]
 |.server=>[115,101,114,118,101,114]
 |.dist=>[100,105,115,116]
 |.reach=>[114,101,97,99,104]
 |.near=>[110,101,97,114]
 |.cancel=>[99,97,110,99,101,108]
 |.tick=>[116,105,99,107]
 |.live=>[108,105,118,101]
 |.held=>[104,101,108,100]
 |.waits=>[119,97,105,116,115]
def CS:Ln->Tx
 |.graph | .cancel=>[110]
 |.edge | .path=>[110,110]
 |.word=>[110,116]
 |.server=>[110,110,110,110,110]
 |.dist | .reach=>[110,110,110]
 |.near=>[110,110,110,110,116]
 |_=>[]
def Cl:Ln->Bool
 |.near=>true
 |_=>false
def Cc:Ln->Bool
 |.tick=>true
 |_=>false
def CV:Ln->Bool
 |.dist | .reach | .near | .cancel | .tick | .live | .held | .waits=>true
 |_=>false
def IT (s:Tx):Option Ln:=Pb.find? λk=>decide (AZ k=s)
theorem y8(k:Ln):IT (AZ k)=some k:=by cases k<;>rfl
def MK (a b:AG):Bool:=decide (b.d<a.d\/a.d=b.d/\a.v<b.v)
theorem bM(a b:AG):MK a b=true↔b.d<a.d\/a.d=b.d/\a.v<b.v:=by unfold MK;simp
theorem Lr(a b:AG):MK a b=false↔¬(b.d<a.d\/a.d=b.d/\a.v<b.v):=by unfold MK;simp
structure NQ (B:Nat) (w:World) (b:Nat) (a:OA) (c:Nat) (l:List AG):Prop where
 lo:B<=b
 cell:Bk w b [.slice a l.length c] 207
 row:AD B 212 w (.slice a l.length c) l
 size:l.length<=100000
abbrev oE:List TypeId:=[207,212]
theorem NQ.up[Le w w']{b:Nat}{c:Nat}{l:List AG}(h:NQ B w b a c l):NQ B w' b a c l:=⟨h.lo,h.cell.mv,h.row.up,h.size⟩
theorem oY{c:Nat}:Sp PP 471 #[.slice a n c] w λv w'=>v=.int .i64 (n:Nat)/\w'=w:=by
 refine eN ?_;exact⟨rfl,rfl⟩
theorem zLV{b c:Nat}{l:List AG}(Q:NQ B w b a c l)(hi:i<l.length)(A:j<l.length):
  Sp PP 472 #[.slice a l.length c,.int .i64 i,.int .i64 j] w λv w'=>v=.bool (MK (CA l i) (CA l j))/\AC w w':=by
 rw[N2 hi,N2 A];refine eN ?_;refine dQ 38 λC D=>?_;have S:=Q.row.sl.up (w':=C);refine CL S (x:=l[i]) (by simp) λh o d _=>AP (d.cell 1 rfl) nf (CL S (x:=l[j]) (by simp) λp r f _=>AP (f.cell 1 rfl) nf (ite (λt=>?_) (λt=>?_)))
 ·have e:MK l[i] l[j]=true:=(bM _ _).2 (.inl t);rw[e];exact⟨rfl,stp⟩
 ·refine CL S (x:=l[i]) (by simp) λh o d _=>AP (d.cell 1 rfl) nf (CL S (x:=l[j]) (by simp) λp r f _=>AP (f.cell 1 rfl) nf (ite (λy=>?_) (λy=>?_)))
  ·refine CL S (x:=l[i]) (by simp) λh o d _=>AP (d.cell 0 rfl) nf (CL S (x:=l[j]) (by simp) λp r f _=>AP (f.cell 0 rfl) nf (ite (λz=>?_) (λz=>?_)))
   ·have e:MK l[i] l[j]=true:=(bM _ _).2 (.inr ⟨y,z⟩);rw[e];exact⟨rfl,stp⟩
   ·have e:MK l[i] l[j]=false:=(Lr _ _).2 (by omega);rw[e];exact⟨rfl,stp⟩
  ·have e:MK l[i] l[j]=false:=(Lr _ _).2 (by omega);rw[e];exact⟨rfl,stp⟩
theorem zLX{b c:Nat}{l:List AG}(Q:NQ B w b a c l)(hi:i<l.length)(h:j<l.length):
  Sp PP 475 #[.slice a l.length c,.int .i64 i,.int .i64 j] w λ_ w'=>NQ B w' b a c (Kz l i j)/\BQ B oE w w':=by
 refine eN ?_;have C:=Q.cell;have O:=Q.row;refine dT (AV B (.slice a l.length c)) (oL [0,1,2,3,4,5,6,8,9,10] (.duo 7 (.lone 11 (oL [12,13,14,15] .nil)) 11 (.lone 7 (oL [12,13,14,15] .nil)))) λd I=>CL (O.sl.up (w':=d)) (x:=l[j]) (by simp) λJ K y _=>CL (O.sl.up (w':=d)) (x:=l[i]) (by simp) λL M z _=>?_
 have fin:∀f,AD B 212 f (.slice a l.length c) ((l.set i l[j]).set j l[i])->Bk f b [.slice a l.length c] 207->Fr (AV B (.slice a l.length c)) d f->NQ B f b a c (Kz l i j)/\BQ B oE w f:=λf D E F=>by
  refine⟨⟨Q.lo,by rw[TX];exact E,?_,by rw[TX];exact Q.size⟩,(BQ.ext Le.e).trans ((O.up (w':=d)).wrote F (Qe _) (by decide))⟩;rw[TX];unfold Kz;rw[N2 hi,N2 h];exact D
 refine⟨Ai y rfl ⟨Fr.refl _ _,Ai z rfl ⟨Fr.refl _ _,?_⟩⟩,Ai z rfl ⟨Fr.refl _ _,Ai y rfl ⟨Fr.refl _ _,?_⟩⟩⟩
 all_goals
  refine ET rfl (O.up (w':=d)) (x:=l[i]) (by simp) λR o _ A=>CZ rfl l[j] (O.up (w':=d)) o hi rfl λS p r _=>⟨r,?_⟩;refine ET rfl p (x:=(l.set i l[j])[j]'(by simpa using h)) (by simp) λT t _ A=>CZ rfl l[i] p t (by simpa using h) rfl λG H v _=>⟨v,?_⟩;exact fin G H (((C.mv (w:=d)).fro (O.up (w':=d)) r).fro p v) (r.trans v)
theorem zLW{b c:Nat}{l:List AG}{x:AG}(Q:NQ B w b a c l)(X:l.length<=99999):
  Sp PP 474 #[.pointer (some ⟨b,0,none⟩),.iface 212 (agg x)] w λ_ w'=>(∃a c,NQ B w' b a c (l++[x]))/\BQ B oE w w':=by
 have hb:=Q.cell.lt;refine eN ?_;refine Tu (Ap λK w1 n1 A=>rE A x λw2 C D _=>?_);have Y:AC w w2:=n1.st D;have E:=Q.cell.mv (w:=w2);have L:=Q.row.up (w':=w2);clear A D;have r:b≠K:=by rintro rfl;have M:=E.h;have F:=C.h;rw[M]at F;cases F
 refine dT (λi=>i=b\/AV B (.slice a l.length c) i) (oL [0,1,2,4] (.duo 3 (oL [5,6,7,8] .nil) 5 (.lone 3 (oL [6,7,8] .nil)))) λf Z=>tG C x (λh=>h.elim (λh=>r h.symm) (λh=>by have:=Q.row.wr h;have:=n1.lo (u:=w);omega)) ?_;have o:=E.mv (w:=f);have t:=L.up (w':=f);have O:B<=f.heap.size:=by have:=o.lt;have:=Q.lo;omega
 have R:BQ B oE w f:=BQ.ext Le.e;have S:=Q.size;refine⟨rX o rfl ⟨Fr.refl _ _,bS x λT d p _ G=>⟨Fr.fr p.e,?_⟩⟩,bS x λT d p _ G=>⟨Fr.fr p.e,rX o rfl ⟨Fr.refl _ _,?_⟩⟩⟩
 all_goals
  refine FR ⟨rfl,rfl⟩ (t.up (w':=d)) G (by omega) (by simp;omega) λv7 u7 H v=>⟨v.mono λi _ hi=>.inr hi,?_⟩;have y:=(o.mv (w:=d)).fro (t.up (w':=d)) v;have U:=(t.up (w':=d)).wrote v (Qe _) (show 212∈oE by decide);have V:=H.shape;obtain⟨I,J,rfl⟩:=V;refine rS y [.slice I (l++[x]).length J] (Lf _ _ _) λu8 W z _=>⟨z.mono λi _ hi=>.inl hi,?_⟩;exact⟨⟨I,J,Q.lo,W,H.frc z y,by simp;omega⟩,((R.trans (BQ.ext p.e)).trans U).trans (y.wrote z Q.lo (by decide))⟩
theorem wW{b c:Nat}{l:List AG}(Q:NQ B w b a c l)(A:l≠[]):
  Sp PP 473 #[.pointer (some ⟨b,0,none⟩)] w λv w'=>v=.iface 212 (agg (CA l (l.length - 1)))/\NQ B w' b a c l.dropLast/\BQ B oE w w':=by
 have D:=JI.2 A;have H:=Q.size;have hi:l.length - 1<l.length:=by omega
 have C:=Q.cell;have O:=Q.row;rw[N2 hi];have o:=O.cut (m:=l.length - 1) (by omega) A;obtain⟨I,J,r⟩:=o;have K:l.length<=c:=by obtain⟨_,_,L,M,_⟩:=O.sl;cases L;exact M
 have t:l.dropLast=l.take (l.length - 1):=XO;have d:l.dropLast.length=l.length - 1:=by simp
 refine eN ?_;refine rX C rfl (rF (l.length - 1) (Bv O.sl (x:=l[l.length - 1]) (by simp) λZ o4 R=>Ai R rfl (Ap λS u2 n5 E=>rE E (l[l.length - 1]) λy F f _=>?_)));have T:AC w y:=n5.st f;clear E f;have p:=C.mv (w:=y);have z:b≠S:=by rintro rfl;have U:=p.h;have G:=F.h;rw[U]at G;cases G
 refine rF (l.length - 1) ?_;subst r;refine PF (m:=l.length - 1) (by omega) ?_;refine rS p [.slice (some ⟨J,0,none⟩) (l.length - 1) c] (Lf _ _ _) λV W f _=>?_;have X:=F.fr f (Jq z);refine rG X (l[l.length - 1]) (Hm ?_);have Y:BQ B oE w V:=(BQ.ext T.e).trans (p.wrote f Q.lo (by decide));refine⟨rfl,⟨Q.lo,by rw[d];exact W,?_,by omega⟩,Y⟩;rw[d,t];exact(I.up (w':=y)).frc f p
theorem oA:Ord MK:=⟨λx=>by rw[Lr];omega,λx y z h k=>by rw[bM]at *;omega,λx y z h k=>by rw[Lr]at *;omega⟩
def SM (B b:Nat) (l:List AG) (w:World):Prop:=∃a c,NQ B w b a c l
theorem SM.up{b:Nat}{l:List AG}[Le w w'](h:SM B b l w):SM B b l w':=by obtain⟨a,c,h⟩:=h;exact⟨a,c,h.up⟩
theorem NQ.ld{b c:Nat}{l:List AG}(h:NQ B w b a c l):(loadVar 207 ⟨b,0,none⟩).run PP w=.ok (.slice a l.length c) w:=
 Zy inferInstance (((h.cell).at (w:=w)).cell0 rfl)
theorem t8(B b:Nat):LD PP 205 (.pointer (some ⟨b,0,none⟩)) MK (SM B b) B oE where
 ord:=oA
 size:=λ_ _ ⟨_,_,h⟩=>h.size
 len:=λ_ _ ⟨a,c,h⟩=>.v h.ld (oY.mono λ_ _ ⟨d,f⟩=>by subst f;exact⟨d,⟨a,c,h⟩,BQ.refl _ _ _⟩)
 less:=λ_ _ _ _ ⟨a,c,h⟩ hi l=>.v h.ld ((zLV h hi l).mono λ_ _ ⟨d,f⟩=>⟨d,⟨a,c,h.up⟩,BQ.ext f.e⟩)
 swap:=λ_ _ _ _ ⟨a,c,h⟩ hi l=>.v h.ld ((zLX h hi l).mono λ_ _ ⟨d,f⟩=>⟨⟨a,c,d⟩,f⟩)
theorem zO8{b:Nat}{l : List AG}{x : AG}(h : SM B b l w)(d : l.length <= 99999) : Hq PP 205 (.pointer (some ⟨b, 0, none⟩)) "Push" [.iface 212 (agg x)] w λ_ w' => SM B b (l ++ [x]) w' /\ BQ B oE w w' := by
 obtain⟨a,c,h⟩:=h;exact .p ((zLW (x:=x) h d).mono λ_ _ ⟨e,f⟩=>⟨e,f⟩)
theorem zQo(B b : Nat) : ∀ l w, SM B b l w -> l ≠ [] -> Hq PP 205 (.pointer (some ⟨b, 0, none⟩)) "Pop" [] w λx w' => x = .iface 212 (agg (CA l (l.length - 1))) /\ SM B b l.dropLast w' /\ BQ B oE w w' :=
 λ_ _ ⟨a,c,h⟩ d=>.p ((wW h d).mono λ_ _ ⟨e,f,o⟩=>⟨e,⟨a,c,f⟩,o⟩)
def Nb (g:An) (v:Nat):Nat:=(g.es.filter λe=>e.f==v).length+(g.es.filter λe=>e.t==v).length
def SD (g:An) (a b:Nat):Prop:=Nb g b<Nb g a\/Nb g a=Nb g b/\a<b
instance decH (g:An):DecidableRel (SD g):=λa b=>by unfold SD;infer_instance
def No (g:An):List Nat:=AW (SD g) (List.range g.n)
theorem TP(g:An):Q1 (SD g):=⟨λa h=>by unfold SD at h;omega,λa b c h k=>by unfold SD at *;omega,λa b=>by unfold SD;omega⟩
theorem fH(v:Nat):∀l:List BP,Be l (v+1)=Be l v+(l.filter λe=>e.f==v).length
 |[]=>rfl
 |e::l=>by
  have:=fH v l;unfold Be at *;rw[Vj,Vj,Vj];by_cases h:e.f=v
  ·simp[h];omega
  ·by_cases b:e.f<v
   ·rw[if_pos (by simp;omega),if_pos (by simpa using b),if_neg (by simpa using h),QA,QA];omega
   ·rw[if_neg (by simp;omega),if_neg (by simpa using b),if_neg (by simpa using h)];omega
theorem U4{r:List BP}(h:Kr g r)(v:Nat):(Be g.es (v+1):Int) - Be g.es v+Be r (v+1) - Be r v=(Nb g v:Nat):=by
 have d:=fH v g.es;have l:=fH v r;have b:=(h.1.filter λe=>e.f==v).length_eq;rw[List.filter_map,Qr]at b;have c:((λe:BP=>e.f==v) ∘ FN)=λe=>e.t==v:=rfl;rw[c]at b;unfold Nb;omega
def NJ (g:An) (v:Nat):AG:=⟨(v:Int),(Nb g v:Nat)⟩
theorem eR{a b:Nat}(h:NJ g a=NJ g b):a=b:=by
 have:=congrArg AG.v h;exact Int.ofNat_inj.1 this
theorem Ng{a b:Nat}:MK (NJ g a) (NJ g b)=true↔SD g a b:=by
 rw[bM];unfold NJ SD;dsimp only;omega
structure PH (g:An) (out:List Nat) (l:List AG):Prop where
 pl:∀y∈l,∃v,y=NJ g v
 perm:(out.map (NJ g)++l).Perm ((List.range g.n).map (NJ g))
 ris:out.Pairwise (SD g)
 lt:∀a∈out,∀y∈l,MK (NJ g a) y=true
theorem PH.pop{out:List Nat}{l z:List AG}(I:PH g out l)(H:l≠[])(r:(CA l 0::z).Perm l)(J:∀c,c<l.length->MK (CA l c) (CA l 0)=false):∃v,CA l 0=NJ g v/\PH g (out++[v]) z:=by
 have F:CA l 0∈l:=r.mem_iff.1 Qs;have o:=I.pl _ F;obtain⟨v,A⟩:=o
 have C:(out.map (NJ g)++l).Nodup:=I.perm.nodup_iff.2 (by
  rw[Qx,QY];exact(Qx.1 Xj).imp λh e=>h (eR e))
 have D:=r.nodup_iff.2 (JU.1 C).2.1;rw[JC]at D;have d:∀y∈z,y∈l:=λy f=>r.mem_iff.1 (QF _ f)
 have t:∀y∈z,MK (NJ g v) y=true:=λy f=>by
  have o:=I.pl y (d y f);obtain⟨u,rfl⟩:=o;have o:=QI.1 (d _ f);obtain⟨c,G,e⟩:=o;have E:=J c G;rw[N2 G,e,A]at E;have o:=(TP g).tri v u;rcases o with x|x|x
  ·exact Ng.2 x
  ·subst x;exact absurd f (by simp_all)
  ·rw[Ng.2 x]at E;cases E
 refine⟨v,A,λy f=>I.pl y (d y f),?_,?_,λa p y f=>?_⟩
 ·rw[QB,Qp];refine(Vp _ ?_).trans I.perm;rw[A]at r;exact r
 ·rw[VK];refine⟨I.ris,by simp,λa p b hb=>?_⟩;rw[Qc.1 hb];have:=I.lt a p _ F;rw[A]at this;exact Ng.1 this
 ·have o:=Qf.1 p;rcases o with p|p
  ·exact I.lt a p y (d y f)
  ·rw[Qc.1 p];exact t y f
theorem PH.done{out:List Nat}(I:PH g out []):out=No g:=by
 refine Wn (TP g) I.ris λz=>?_;have h:=I.perm.mem_iff (a:=NJ g z);rw[QE,Qq,Qq]at h;constructor
 ·intro b;have c:=h.1 ⟨z,b,rfl⟩;obtain⟨u,d,e⟩:=c;rw[<-eR e];exact d
 ·intro b;have c:=h.2 ⟨z,b,rfl⟩;obtain⟨u,d,e⟩:=c;rw[<-eR e];exact d
section
variable (nb:Nat->List Nat)
def KD:Nat->Nat->List Int->List Nat->List Int
 |0,_,lev,_=>lev
 |k+1,d,lev,fr=>if IU lev (fr.flatMap nb)=[] then lev else KD k (d+1) (CT ((d:Int)+1) (IU lev (fr.flatMap nb)) lev) (IU lev (fr.flatMap nb))
def Hb (lev:List Int):Nat->Nat->List Nat
 |0,_=>[]
 |k+1,now=>match (nb now).find? (λw=>decide (lev.getD w 0=(k:Int))) with
  |some w=>w::Hb lev k w
  |none=>Hb lev k now
end
def ME (g:An) (t:Nat):List Int:=KD (Aj g 1) (g.n+1) 0 ((List.replicate g.n (-1:Int)).set t 0) [t]
def DC (g:An) (f t:Nat):List Nat:=if(ME g t).getD f 0<0 then[] else f::Hb (Aj g 0) (ME g t) ((ME g t).getD f 0).toNat f
def NG (p:List Bool×List Nat) (w:Nat):List Bool×List Nat:=if p.1.getD w true then p else(p.1.set w true,p.2++[w])
structure nC where
 seen:List Bool
 l:List Nat
 add:List (Nat×Nat)
def MX (nb:Nat->List Nat) (P:Nat->Nat->Bool) (d:Nat) (s:nC) (v:Nat):nC:=
 if P v d then s else ⟨((nb v).foldl NG (s.seen,s.l)).1,((nb v).foldl NG (s.seen,s.l)).2,s.add++[(v,d)]⟩
def TN (nb:Nat->List Nat) (P:Nat->Nat->Bool):Nat->Nat->List Bool->List (Nat×Nat)->List Nat->List (Nat×Nat)
 |0,_,_,add,_=>add
 |k+1,d,seen,add,fr=>if fr=[] then add else
  TN nb P k (d+1) (fr.foldl (MX nb P d) ⟨seen,[],add⟩).seen (fr.foldl (MX nb P d) ⟨seen,[],add⟩).add (fr.foldl (MX nb P d) ⟨seen,[],add⟩).l
def MJ (nb:Nat->List Nat) (P:Nat->Nat->Bool) (n h:Nat):List (Nat×Nat):=TN nb P (n+1) 0 ((List.replicate n false).set h true) [] [h]
def Ke (add:List (Nat×Nat)) (v:Nat):Option Nat:=(add.find? λp=>decide (p.1=v)).map (·.2)
def Ok (a b:List AG) (d:Nat):Bool:=a.any λx=>b.any λy=>decide (x.v=y.v/\x.d+y.d<=(d:Int))
abbrev Rv:=Bool->Nat->List AG
def TA (L:Rv) (s:Bool) (h:Nat) (A:Nat->Option Nat):Rv:=λs' v=>if s'=s then(match A v with|some d=>L s v++[⟨(h:Int),(d:Int)⟩]|none=>L s v) else L s' v
def TF (g:An) (L:Rv) (h:Nat):Rv:=
 let L1:=TA L false h (Ke (MJ (Aj g 0) (λv d=>Ok (L true h) (L false v) d) g.n h))
 TA L1 true h (Ke (MJ (Aj g 1) (λv d=>Ok (L1 true v) (L false h) d) g.n h))
def Ss (g:An):Rv:=(No g).foldl (TF g) λ_ _=>[]
def GX (n:Nat) (L:Rv):Nat:=((List.range n).map λv=>(L true v).length).sum+((List.range n).map λv=>(L false v).length).sum
def Is:Tx:=[111,107]
def GA:Tx:=[119,104,97,116]
def KH:Tx:=[110,111,110,101]
def Ih (e:Int):Tx:=[101,114,114,111,114,32]++Lib.itoa e
def EO (l:List Tx) (between:Tx):Tx:=if l=[] then[45] else Lib.join l between
def EA (l:List Int):Tx:=EO (l.map Lib.itoa) [32]
def HQ (h:AG):Tx:=Lib.itoa h.v++[58]++Lib.itoa h.d
def Da (p:Int×Int×Gk):Tx:=
 if p.2.1≠0 then Lib.itoa p.1++[32,101,114,114,111,114,32]++Lib.itoa p.2.1
 else Lib.join ([Lib.itoa p.1,if p.2.2.found then[121,101,115] else[110,111],Lib.itoa p.2.2.num]++p.2.2.hits.map HQ) [32]
structure DF where
 g:An
 s:Option (An×DN×ES)
def EE:DF:=⟨⟨1,[],[[]]⟩,none⟩
def TL (x:Int×Int×Int×Int×Int):Prop:=(1<=x.1/\x.1<=16)/\(1<=x.2.1/\x.2.1<=64)/\(1<=x.2.2.1/\x.2.2.1<=1000)/\(1<=x.2.2.2.1/\x.2.2.2.1<=400)/\(1<=x.2.2.2.2/\x.2.2.2.2<=1000)
noncomputable def Fw (g:An) (c:DN) (s:ES) (x:Bt):ES×Option (Int×Int):=
 if x.kind=4 then((DJ s x.id).1,some (x.id,(DJ s x.id).2))
 else if(DU g c s x (CD x.q g.n)).2=0 then((DU g c s x (CD x.q g.n)).1,none) else(s,some (x.id,(DU g c s x (CD x.q g.n)).2))
open Classical in
noncomputable def CY (d:DF) (x:Bt):Except Int (Tx×DF):=match d.s with
 |none=>.error 0
 |some (g,c,s)=>if Eo x then .ok (match (Fw g c s x).2 with|none=>Is|some p=>Da (p.1,p.2,ER),{ d with s:=some (g,c,(Fw g c s x).1) }) else .error 1
def Ly (id kind f t:Int) (ws:List ByteArray) (r m:Int):Bt:=⟨id,kind,⟨kind,f,t,ws,r,m⟩⟩
open Classical in
noncomputable def EW (d:DF) (k:Ln) (n:List Int) (t:List Tx):Except Int (Tx×DF):=match k with
 |.graph=>if n.getD 0 0<1\/200<n.getD 0 0 then .error 1 else .ok (Is,{ d with g:=⟨(n.getD 0 0).toNat,[],List.replicate (n.getD 0 0).toNat []⟩ })
 |.edge=>if DK { d.g with es:=d.g.es++[⟨(n.getD 0 0).toNat,(n.getD 1 0).toNat⟩] } then .ok (Is,{ d with g:={ d.g with es:=d.g.es++[⟨(n.getD 0 0).toNat,(n.getD 1 0).toNat⟩] } }) else .error 20
 |.word=>if(d.g.n:Int)<=n.getD 0 0 then .error 20 else
  if DK { d.g with ws:=d.g.ws.modify (n.getD 0 0).toNat (·++[AS (t.getD 0 [])]) } then .ok (Is,{ d with g:={ d.g with ws:=d.g.ws.modify (n.getD 0 0).toNat (·++[AS (t.getD 0 [])]) } }) else .error 20
 |.path=>if(d.g.n:Int)<=n.getD 0 0\/(d.g.n:Int)<=n.getD 1 0 then .error 1 else .ok (EA (AH (DC (CI d.g) (n.getD 0 0).toNat (n.getD 1 0).toNat)),d)
 |.hubs=>.ok (Lib.itoa (GX d.g.n (Ss (CI d.g))),d)
 |.server=>if TL (n.getD 0 0,n.getD 1 0,n.getD 2 0,n.getD 3 0,n.getD 4 0) then
   .ok (Is,{ d with s:=some (CI d.g,⟨(n.getD 0 0).toNat,(n.getD 1 0).toNat,(n.getD 2 0).toNat,(n.getD 3 0).toNat,(n.getD 4 0).toNat⟩,Du ⟨(n.getD 0 0).toNat,(n.getD 1 0).toNat,(n.getD 2 0).toNat,(n.getD 3 0).toNat,(n.getD 4 0).toNat⟩) }) else .error 1
 |.dist=>CY d (Ly (n.getD 0 0) 1 (n.getD 1 0) (n.getD 2 0) [] 0 0)
 |.reach=>CY d (Ly (n.getD 0 0) 2 (n.getD 1 0) (n.getD 2 0) [] 0 0)
 |.near=>CY d (Ly (n.getD 0 0) 3 (n.getD 1 0) 0 (t.map AS) (n.getD 2 0) (n.getD 3 0))
 |.cancel=>CY d ⟨n.getD 0 0,4,L3⟩
 |.tick=>match d.s with
  |none=>.error 0
  |some (g,c,s)=>.ok (EO ((Ck g c s).map Da) [44,32],{ d with s:=some (g,c,(Eq g c s).1) })
 |.live=>match d.s with
  |none=>.error 0
  |some (g,c,s)=>.ok (EA ((List.range c.workers).map λk=>(DG g c.workers s.held k:Int)),d)
 |.held=>match d.s with
  |none=>.error 0
  |some (_,_,s)=>.ok (EA (Bg s.held),d)
 |.waits=>match d.s with
  |none=>.error 0
  |some (_,_,s)=>.ok (EA (Cn s.wait),d)
noncomputable def AT (d:DF) (s:Tx):Tx×DF:=match Bj 32 s with
 |[]=>(GA,d)
 |h::l=>match IT h with
  |none=>(GA,d)
  |some k=>match Bf (CS k) (Cl k) (Cc k) l with
   |none=>(GA,d)
   |some p=>if CV k=true/\d.s.isNone=true then(KH,d) else match EW d k p.1 p.2 with
    |.ok r=>r
    |.error e=>(Ih e,d)
noncomputable def BK:DF->List Tx->Tx
 |_,[]=>[]
 |d,s::r=>(AT d s).1++[10]++BK (AT d s).2 r
noncomputable def aM:DF->List Tx->DF
 |d,[]=>d
 |d,s::r=>aM (AT d s).2 r
theorem tU:∀(a b:List Tx) (d:DF),BK d (a++b)=BK d a++BK (aM d a) b
 |[],_,_=>rfl
 |s::a,b,d=>by show _++BK _ (a++b)=_;rw[tU a b,<-Qp];rfl
def g0:An:=⟨2,[⟨0,1⟩],[[],[]]⟩
def c0:DN:=⟨1,1,1,9,9⟩
def q7:FX:=⟨1,0,1,[],0,0⟩
def x7:Bt:=⟨7,1,q7⟩
theorem Tt(n:Int)(h:2<=n):CD q7 n:=⟨.inl rfl,⟨by decide,by show(0:Int)<n;omega⟩,λ_=>⟨by decide,by show(1:Int)<n;omega⟩,λh=>by simp[q7]at h⟩
theorem ZU{id:Int}(h:0<=id/\id<=2147483647):Eo ⟨id,1,q7⟩:=⟨.inr ⟨rfl,Tt 200 (by decide)⟩,h,by
 show(if(1:Int)=4 then q7=L3 else if(1:Int)=3 then q7.to=0 else q7.words=[]/\q7.rad=0/\q7.most=0);rw[if_neg (by decide),if_neg (by decide)];exact⟨rfl,rfl,rfl⟩⟩
section
variable {g:An} {c:DN}
end
def h0 (j:Nat):Hs:=[some (x7,j)]
theorem ZV:Az g0 q7 (sts g0 q7 0 2) (Cf g0 q7 0 2)=(⟨true,1,[]⟩,true):=by decide
set_option maxRecDepth 20000
theorem Ui(h:k<10):Lib.decDigits k=[UInt8.ofNat (48+k)]:=by rw[Lib.decDigits,dif_pos h]
theorem PN(h:k<10):Lib.itoa (k:Int)=[UInt8.ofNat (48+k)]:=by
 unfold Lib.itoa;rw[if_neg (by omega)];exact Ui h
theorem WC(h:k<10):Bx [UInt8.ofNat (48+k)]=some (k:Int):=by
 have e:Lib.atoiAll [UInt8.ofNat (48+k)]=.ok (k:Int):=by
  have:k=0\/k=1\/k=2\/k=3\/k=4\/k=5\/k=6\/k=7\/k=8\/k=9:=by omega
  rcases this with rfl|rfl|rfl|rfl|rfl|rfl|rfl|rfl|rfl|rfl<;>rfl
 unfold Bx;rw[e];exact if_pos ⟨by omega,by omega,by simp,PN h⟩
theorem WR:Bx [48]=some 0:=WC (k:=0) (by decide)
theorem SA:Bx [49]=some 1:=WC (k:=1) (by decide)
theorem Wt:Bx [50]=some 2:=WC (k:=2) (by decide)
theorem xN:Bx [51]=some 3:=WC (k:=3) (by decide)
theorem lW:Bx [53]=some 5:=WC (k:=5) (by decide)
theorem yS:Bx [55]=some 7:=WC (k:=7) (by decide)
theorem dO:Bx [57]=some 9:=WC (k:=9) (by decide)
theorem it0:Lib.itoa 0=[48]:=PN (k:=0) (by decide)
theorem it1:Lib.itoa 1=[49]:=PN (k:=1) (by decide)
theorem it2:Lib.itoa 2=[50]:=PN (k:=2) (by decide)
theorem it5:Lib.itoa 5=[53]:=PN (k:=5) (by decide)
theorem it7:Lib.itoa 7=[55]:=PN (k:=7) (by decide)
theorem nB:Lib.itoa 8=[56]:=PN (k:=8) (by decide)
theorem pk5:Do [53]=some 5:=by unfold Do;rw[if_neg (by decide)];exact lW
theorem RM{d:DF}{s h:Tx}{l:List Tx}{k:Ln}{ns:List Int}{ts:List Tx}{t:Tx}{d':DF}(b:Bj 32 s=h::l)(c:IT h=some k)
  (e:Bf (CS k) (Cl k) (Cc k) l=some (ns,ts))(o:CV k=true->d.s.isNone=false)(f:EW d k ns ts=.ok (t,d')):AT d s=(t,d'):=by
 unfold AT;rw[b];dsimp only;rw[c];dsimp only;rw[e];dsimp only;rw[if_neg (λh=>by simp_all),f]
theorem KL{d:DF}{s t:Tx}{r:List Tx}{d':DF}{out:Tx}(h:AT d s=(t,d'))(b:BK d' r=out):BK d (s::r)=t++[10]++out:=by simp_all[AT,BK]
theorem UX{es:List BP}{b:List (List ByteArray)}(h:1<=n/\n<=200)(o:es.length<=2000)(p:b.length=n)(c:∀e∈es,e.f<n/\e.t<n)(d:∀l∈b,l=[]):DK ⟨n,es,b⟩:=by
 refine⟨h.1,h.2,o,p,c,λl r=>?_⟩;rw[d l r];exact⟨by simp,by simp⟩
def gA:An:=⟨3,[],[[],[],[]]⟩
def gB:An:=⟨3,[⟨0,1⟩],[[],[],[]]⟩
def gC:An:=⟨3,[⟨0,1⟩,⟨1,2⟩],[[],[],[]]⟩
theorem zQQ:AT EE [108,105,118,101]=(KH,EE):=by
 have b:Bf (CS .live) (Cl .live) (Cc .live) []=some ([],[]):=rfl;unfold AT;rw[show Bj 32 [108,105,118,101]=[[108,105,118,101]] from rfl];dsimp only;rw[show IT [108,105,118,101]=some Ln.live from rfl];dsimp only;rw[b];dsimp only;rw[if_pos ⟨rfl,rfl⟩]
theorem yZ(d:DF):AT d [120]=(GA,d):=rfl
theorem zQP(d:DF):AT d [103,114,97,112,104,32,51]=(Is,{ d with g:=gA }):=by
 refine RM (h:=AZ .graph) (l:=[[51]]) (k:=.graph) (ns:=[3]) (ts:=[]) rfl rfl ?_ (λh=>by cases h) ?_
 ·simp[Bf,BJ,CS,Cl,Cc,xN]
 ·exact if_neg (t:=.error 1) (show ¬((3:Int)<1\/200<(3:Int)) by decide)
theorem NP{d:DF}{s:Tx}{a b:Tx}(c:Bj 32 s=[AZ .edge,a,b])(e:Bx a=some (i:Int))(hb:Bx b=some (j:Int))(f:g = { d.g with es:=d.g.es++[⟨i,j⟩] })(o:DK g):
  AT d s=(Is,{ d with g:=g }):=by
 refine RM (h:=AZ .edge) (l:=[a,b]) (k:=.edge) (ns:=[(i:Int),(j:Int)]) (ts:=[]) c rfl ?_ (λh=>by cases h) ?_
 ·simp[Bf,BJ,CS,Cl,Cc,e,hb]
 ·subst f;exact if_pos o
theorem Mt{d:DF}{s:Tx}{a b:Tx}{l:List Nat}{o:Tx}(c:Bj 32 s=[AZ .path,a,b])(e:Bx a=some (i:Int))(hb:Bx b=some (j:Int))(hi:i<d.g.n)(t:j<d.g.n)
  (f:DC (CI d.g) i j=l)(p:EA (AH l)=o):AT d s=(o,d):=by
 refine RM (h:=AZ .path) (l:=[a,b]) (k:=.path) (ns:=[(i:Int),(j:Int)]) (ts:=[]) c rfl ?_ (λh=>by cases h) ?_
 ·simp[Bf,BJ,CS,Cl,Cc,e,hb]
 ·subst f;subst p;have r:¬((d.g.n:Int)<=(i:Int)\/(d.g.n:Int)<=(j:Int)):=by omega
  exact if_neg r
theorem Rq:CI gC=gC:=by
 have h:AW Dl gC.es=gC.es:=by decide
 unfold CI;rw[h];rfl
theorem U5{d:DF}(hd:d.g=gC):AT d [104,117,98,115]=([56],d):=by
 refine RM (h:=AZ .hubs) (l:=[]) (k:=.hubs) (ns:=[]) (ts:=[]) rfl rfl rfl (λh=>by cases h) ?_;show(Except.ok (Lib.itoa (GX d.g.n (Ss (CI d.g))),d):Except Int (Tx×DF))=_;rw[hd,Rq];have h:GX gC.n (Ss gC)=8:=by decide
 rw[h];have:=nB;exact congrArg (λz=>(Except.ok (z,d):Except Int (Tx×DF))) nB
theorem Zk:DC gC 0 2=[0,1,2]:=by decide
theorem uU{d:DF}{s:Tx}{a b c e f:Tx}{n1 n4 n5:Nat}(o:Bj 32 s=[AZ .server,a,b,c,e,f])(p:Bx a=some (n1:Int))(r:Bx b=some (n2:Int))(t:Bx c=some (n3:Int))(v:Bx e=some (n4:Int))(h5:Bx f=some (n5:Int))
  (x:(1<=n1/\n1<=16)/\(1<=n2/\n2<=64)/\(1<=n3/\n3<=1000)/\(1<=n4/\n4<=400)/\(1<=n5/\n5<=1000)):
  AT d s=(Is,{ d with s:=some (CI d.g,⟨n1,n2,n3,n4,n5⟩,Du ⟨n1,n2,n3,n4,n5⟩) }):=by
 refine RM (h:=AZ .server) (l:=[a,b,c,e,f]) (k:=.server) (ns:=[(n1:Int),(n2:Int),(n3:Int),(n4:Int),(n5:Int)]) (ts:=[]) o rfl ?_ (λh=>by cases h) ?_
 ·simp[Bf,BJ,CS,Cl,Cc,p,r,t,v,h5]
 ·have h:TL ((n1:Int),(n2:Int),(n3:Int),(n4:Int),(n5:Int)):=by unfold TL;dsimp only;omega
  exact if_pos h
theorem Rh{d:DF}{c:DN}{v f:ES}{s:Tx}{a b e:Tx}(hd:d.s=some (g,c,v))(o:Bj 32 s=[AZ .dist,a,b,e])(p:Bx a=some (i:Int))(hb:Bx b=some (j:Int))(r:Bx e=some (k:Int))
  (t:Eo (Ly i 1 j k [] 0 0))(x:DU g c v (Ly i 1 j k [] 0 0) (CD (Ly i 1 j k [] 0 0).q g.n)=(f,0)):AT d s=(Is,{ d with s:=some (g,c,f) }):=by
 refine RM (h:=AZ .dist) (l:=[a,b,e]) (k:=.dist) (ns:=[(i:Int),(j:Int),(k:Int)]) (ts:=[]) o rfl ?_ (λ_=>by rw[hd];rfl) ?_
 ·simp[Bf,BJ,CS,Cl,Cc,p,hb,r]
 ·show CY d (Ly i 1 j k [] 0 0)=_;unfold CY;rw[hd];dsimp only;rw[if_pos t]
  have h:Fw g c v (Ly i 1 j k [] 0 0)=(f,none):=by
   unfold Fw;rw[if_neg (show ¬(Ly i 1 j k [] 0 0).kind=4 by show ¬(1:Int)=4;decide),x,if_pos rfl]
  rw[h]
theorem Lb{d:DF}{c:DN}{v b:ES}{s:Tx}{l:List Tx}{ns:List Int}{ps:List (Int×Int×Gk)}{o:Tx}(hd:d.s=some (g,c,v))(e:Bj 32 s=AZ .tick::l)(f:Bf [] false true l=some (ns,[]))
  (p:Ck g c v=ps)(r:(Eq g c v).1=b)(t:EO (ps.map Da) [44,32]=o):AT d s=(o,{ d with s:=some (g,c,b) }):=by
 refine RM (h:=AZ .tick) (l:=l) (k:=.tick) (ns:=ns) (ts:=[]) e rfl f (λ_=>by rw[hd];rfl) ?_;unfold EW;dsimp only;rw[hd];dsimp only;rw[p,r,t]
theorem RH{d:DF}{c:DN}{v:ES}{o:Tx}(hd:d.s=some (g,c,v))(b:EA (Bg v.held)=o):AT d [104,101,108,100]=(o,d):=by
 refine RM (h:=AZ .held) (l:=[]) (k:=.held) (ns:=[]) (ts:=[]) rfl rfl rfl (λ_=>by rw[hd];rfl) ?_;unfold EW;dsimp only;rw[hd];dsimp only;rw[b]
theorem zQR{d:DF}{c:DN}{v:ES}{o:Tx}(hd:d.s=some (g,c,v))(b:EA (Cn v.wait)=o):AT d [119,97,105,116,115]=(o,d):=by
 refine RM (h:=AZ .waits) (l:=[]) (k:=.waits) (ns:=[]) (ts:=[]) rfl rfl rfl (λ_=>by rw[hd];rfl) ?_;unfold EW;dsimp only;rw[hd];dsimp only;rw[b]
theorem WF{d:DF}{c:DN}{v:ES}{o:Tx}(hd:d.s=some (g,c,v))(b:EA ((List.range c.workers).map λk=>(DG g c.workers v.held k:Int))=o):AT d [108,105,118,101]=(o,d):=by
 refine RM (h:=AZ .live) (l:=[]) (k:=.live) (ns:=[]) (ts:=[]) rfl rfl rfl (λ_=>by rw[hd];rfl) ?_;unfold EW;dsimp only;rw[hd];dsimp only;rw[b]
theorem zPM(d:DF):AT d [103,114,97,112,104,32,50]=(Is,{ d with g:=⟨2,[],[[],[]]⟩ }):=by
 refine RM (h:=AZ .graph) (l:=[[50]]) (k:=.graph) (ns:=[2]) (ts:=[]) rfl rfl ?_ (λh=>by cases h) ?_
 ·simp[Bf,BJ,CS,Cl,Cc,Wt]
 ·exact if_neg (t:=.error 1) (show ¬((2:Int)<1\/200<(2:Int)) by decide)
def cC:DN:=⟨2,1,2,9,9⟩
def qC:FX:=⟨1,0,2,[],0,0⟩
def xC:Bt:=⟨7,1,qC⟩
def hC (j:Nat):Hs:=[some (xC,j)]
section
variable {g:An} {c:DN}
theorem bH{s:ES}{l:List Bt}{h b:Hs}{o:Option (Int×Int×Gk)}(d:BS s.wait s.held=(l,h))(e:Av h=[0])(f:(Ah g c h 0).1=b)(p:Cj g c h 0=o):(Eq g c s).1=⟨l,b⟩/\Ck g c s=o.toList:=by
 constructor
 ·unfold Eq;rw[d];dsimp only;rw[e];show(⟨l,(Ah g c h 0).1⟩:ES)=_;rw[f]
 ·unfold Ck;rw[d];dsimp only;rw[e];show(Cj g c h 0).toList++[]=_;rw[p,QE]
end
theorem Rd:(Eq gC cC ⟨[xC],[none]⟩).1=⟨[],hC 1⟩/\Ck gC cC ⟨[xC],[none]⟩=[]:=by
 have e:(hC 0).getD 0 none=some (xC,0):=rfl;have b:=Wp (g:=gC) (c:=cC) e (by decide) (by decide) (by decide);obtain⟨d,f⟩:=b;exact bH (h:=hC 0) (o:=none) rfl rfl f d
theorem ZB:Az gC qC (sts gC qC 0 2) (Cf gC qC 0 2)=(⟨true,2,[]⟩,true):=by decide
theorem Pn:(Eq gC cC ⟨[],hC 1⟩).1=⟨[],[none]⟩/\Ck gC cC ⟨[],hC 1⟩=[(7,0,⟨true,2,[]⟩)]:=by
 have e:(hC 1).getD 0 none=some (xC,1):=rfl;have hd:Az gC xC.q (sts gC xC.q (0:Nat) (1+1)) (Cf gC xC.q (0:Nat) (1+1))=(⟨true,2,[]⟩,true):=ZB;have d:=Xe (g:=gC) (c:=cC) e (by decide) (by rw[hd]);obtain⟨b,f⟩:=d;rw[hd]at b;exact bH (h:=hC 1) rfl rfl f b
theorem rqC:Eo xC:=⟨.inr ⟨rfl,.inl rfl,⟨by decide,by decide⟩,λ_=>⟨by decide,by decide⟩,λh=>by simp[xC,qC]at h⟩,by decide,by
 show(if(1:Int)=4 then qC=L3 else if(1:Int)=3 then qC.to=0 else qC.words=[]/\qC.rad=0/\qC.most=0);rw[if_neg (by decide),if_neg (by decide)];exact⟨rfl,rfl,rfl⟩⟩
theorem iM:DU gC cC (Du cC) xC (CD xC.q gC.n)=(⟨[xC],[none]⟩,0):=by
 have h:CD xC.q (gC.n:Int):=⟨.inl rfl,⟨by decide,by decide⟩,λ_=>⟨by decide,by decide⟩,λh=>by simp[xC,qC]at h⟩;unfold DU;rw[if_pos h];rfl
def x5:Bt:=⟨5,1,q7⟩
def h5 (j:Nat):Hs:=[some (x5,j)]
theorem iB:DU g0 c0 (Du c0) x5 (CD x5.q g0.n)=(⟨[x5],[none]⟩,0):=by
 unfold DU;rw[if_pos (show CD x5.q (g0.n:Int) from Tt 2 (by decide))];rfl
theorem RA:(Eq g0 c0 ⟨[x5],[none]⟩).1=⟨[],h5 1⟩/\Ck g0 c0 ⟨[x5],[none]⟩=[]:=by
 have e:(h5 0).getD 0 none=some (x5,0):=rfl;have b:=Wp (g:=g0) (c:=c0) e (by decide) (by decide) (by decide);obtain⟨d,f⟩:=b;exact bH (h:=h5 0) (o:=none) rfl rfl f d
theorem Pp:(Eq g0 c0 ⟨[],h5 1⟩).1=⟨[],[none]⟩/\Ck g0 c0 ⟨[],h5 1⟩=[(5,0,⟨true,1,[]⟩)]:=by
 have e:(h5 1).getD 0 none=some (x5,1):=rfl;have hd:Az g0 x5.q (sts g0 x5.q (0:Nat) (1+1)) (Cf g0 x5.q (0:Nat) (1+1))=(⟨true,1,[]⟩,true):=ZV;have d:=Xe (g:=g0) (c:=c0) e (by decide) (by rw[hd]);obtain⟨b,f⟩:=d;rw[hd]at b;exact bH (h:=h5 1) rfl rfl f b
theorem Pr:CI g0=g0:=by
 have h:AW Dl g0.es=g0.es:=by decide
 unfold CI;rw[h];rfl
theorem Un:DC g0 0 1=[0,1]:=by decide
theorem Wf:DC g0 1 0=[]:=by decide
theorem yV:EA []=[45]:=rfl
theorem Sn:EA (AH [0,1,2])=[48,32,49,32,50]:=by
 show EO [Lib.itoa ((0:Nat):Int),Lib.itoa ((1:Nat):Int),Lib.itoa ((2:Nat):Int)] [32]=_;rw[PN (k:=0) (by decide),PN (k:=1) (by decide),PN (k:=2) (by decide)];rfl
theorem Uf:EA (AH [0,1])=[48,32,49]:=by
 show EO [Lib.itoa ((0:Nat):Int),Lib.itoa ((1:Nat):Int)] [32]=_;rw[PN (k:=0) (by decide),PN (k:=1) (by decide)];rfl
theorem gL:EO ([((7:Int),(0:Int),(⟨true,2,[]⟩:Gk))].map Da) [44,32]=[55,32,121,101,115,32,50]:=by
 have h:Da ((7:Int),(0:Int),(⟨true,2,[]⟩:Gk))=[55,32,121,101,115,32,50]:=by
  unfold Da;rw[if_neg (by simp),it7,it2];rfl
 rw[QS,h];rfl
theorem kJ:EO ([((5:Int),(0:Int),(⟨true,1,[]⟩:Gk))].map Da) [44,32]=[53,32,121,101,115,32,49]:=by
 have h:Da ((5:Int),(0:Int),(⟨true,1,[]⟩:Gk))=[53,32,121,101,115,32,49]:=by
  unfold Da;rw[if_neg (by simp),it5,it1];rfl
 rw[QS,h];rfl
def kQ:Tx:=[108,105,118,101,10,120,10,103,114,97,112,104,32,51,10,101,100,103,101,32,48,32,49,10,101,100,103,101,32,49,32,50,10,112,97,116,104,32,48,32,50,10,104,117,98,115,10,115,101,114,118,101,114,32,50,32,49,32,50,32,57,32,57,10,100,105,115,116,32,55,32,48,32,50,10,116,105,99,107,10,116,105,99,107,32,53,10,104,101,108,100,10]
def ouC:Tx:=[110,111,110,101,10,119,104,97,116,10,111,107,10,111,107,10,111,107,10,48,32,49,32,50,10,56,10,111,107,10,111,107,10,45,10,55,32,121,101,115,32,50,10,45,10]
theorem Wj:AE kQ=[[108,105,118,101],[120],[103,114,97,112,104,32,51],[101,100,103,101,32,48,32,49],[101,100,103,101,32,49,32,50],[112,97,116,104,32,48,32,50],[104,117,98,115],[115,101,114,118,101,114,32,50,32,49,32,50,32,57,32,57],[100,105,115,116,32,55,32,48,32,50],[116,105,99,107],[116,105,99,107,32,53],[104,101,108,100]]:=rfl
theorem kV:BK EE (AE kQ)=ouC:=by
 rw[Wj];have h:=zQQ;have o:=yZ EE;have p:=zQP EE;have r:AT ⟨gA,none⟩ [101,100,103,101,32,48,32,49]=(Is,⟨gB,none⟩):=NP (d:=⟨gA,none⟩) (i:=0) (j:=1) rfl WR SA rfl (UX (by decide) (by decide) rfl (by decide) (by simp));have t:AT ⟨gB,none⟩ [101,100,103,101,32,49,32,50]=(Is,⟨gC,none⟩):=NP (d:=⟨gB,none⟩) (i:=1) (j:=2) rfl SA Wt rfl (UX (by decide) (by decide) rfl (by decide) (by simp));have v:AT ⟨gC,none⟩ [112,97,116,104,32,48,32,50]=([48,32,49,32,50],⟨gC,none⟩):=Mt (i:=0) (j:=2) rfl WR Wt (by decide) (by decide) (by show DC (CI gC) 0 2=_;rw[Rq];exact Zk) Sn;have x:AT ⟨gC,none⟩ [104,117,98,115]=([56],⟨gC,none⟩):=U5 rfl;have f:AT ⟨gC,none⟩ [115,101,114,118,101,114,32,50,32,49,32,50,32,57,32,57]=(Is,⟨gC,some (CI gC,cC,Du cC)⟩):=uU (n1:=2) (n2:=1) (n3:=2) (n4:=9) (n5:=9) rfl Wt SA Wt dO dO (by decide);rw[Rq]at f;have y:AT ⟨gC,some (gC,cC,Du cC)⟩ [100,105,115,116,32,55,32,48,32,50]=(Is,⟨gC,some (gC,cC,⟨[xC],[none]⟩)⟩):=Rh (i:=7) (j:=0) (k:=2) rfl rfl yS WR Wt rqC iM;have b:AT ⟨gC,some (gC,cC,⟨[xC],[none]⟩)⟩ [116,105,99,107]=([45],⟨gC,some (gC,cC,⟨[],hC 1⟩)⟩):=Lb (l:=[]) (ns:=[]) rfl rfl rfl Rd.2 Rd.1 rfl;have c:AT ⟨gC,some (gC,cC,⟨[],hC 1⟩)⟩ [116,105,99,107,32,53]=([55,32,121,101,115,32,50],⟨gC,some (gC,cC,⟨[],[none]⟩)⟩):=Lb (l:=[[53]]) (ns:=[5]) rfl rfl (by simp[Bf,BJ,pk5]) Pn.2 Pn.1 gL;have e:AT ⟨gC,some (gC,cC,⟨[],[none]⟩)⟩ [104,101,108,100]=([45],⟨gC,some (gC,cC,⟨[],[none]⟩)⟩):=RH rfl rfl;exact(KL h (KL o (KL p (KL r (KL t (KL v (KL x (KL f (KL y (KL b (KL c (KL e rfl)))))))))))).trans rfl
theorem UP(y b:UInt8)(l:Tx):([y]:Tx).isPrefixOf (b::l)=(y==b):=by simp[List.isPrefixOf]
theorem NB{y:UInt8}:∀{a:Tx},y∉a->Lib.index a [y] = -1
 |[],_=>rfl
 |b::l,h=>by
  rw[Ql,not_or]at h;unfold Lib.index;rw[UP,NB h.2,if_neg (by simpa using h.1)];rfl
theorem LX{y:UInt8}{r:Tx}:∀{a:Tx},y∉a->Lib.index (a++y::r) [y]=(a.length:Int)
 |[],_=>by
  show Lib.index (y::r) [y]=_;unfold Lib.index;rw[UP,if_pos (by simp)];rfl
 |b::l,h=>by
  rw[Ql,not_or]at h;show Lib.index (b::(l++y::r)) [y]=_;unfold Lib.index;have c:((l.length:Int)==-1)=false:=by simp
  rw[UP,LX h.2,if_neg (by simpa using h.1),c,if_neg (by simp)];simp
theorem PY{y:UInt8}{a:Tx}(h:y∉a):Lib.cut a [y]=(a,[],false):=by
 unfold Lib.cut;rw[NB h,if_neg (by decide)]
theorem Pg{y:UInt8}{a r:Tx}(h:y∉a):Lib.cut (a++y::r) [y]=(a,r,true):=by
 unfold Lib.cut;rw[LX h,if_pos (by omega)];simp
theorem Ur{y:UInt8}{a r:Tx}(h:y∉a):Lib.count (a++y::r) [y]=1+Lib.count r [y]:=by
 have:=Lib.count_hit (s:=a++y::r) (sub:=[y]) (i:=a.length) (by simp) (LX h);rw[this];congr 2;simp
theorem zQN{y:UInt8}{a:Tx}(h:y∉a)(k:Nat):Lib.splitK [y] 0 k a=[a]:=by
 cases k with
 |zero=>rfl
 |succ k=>unfold Lib.splitK;rw[NB h];rfl
theorem zQM{y:UInt8}{a r:Tx}(h:y∉a)(k:Nat):Lib.splitK [y] 0 (k+1) (a++y::r)=a::Lib.splitK [y] 0 k r:=by
 have b:((a.length:Int)==-1)=false:=by simp
 rw[Lib.splitK,LX h,b,if_neg (by simp)];simp
theorem rO(y:UInt8):∀(n:Nat) (s:Tx),s.length<=n->Lib.splitK [y] 0 (Lib.count s [y]) s=Bj y s
 |0,s,h=>by
  have:s=[]:=Qn (by omega);subst this;rfl
 |n+1,s,h=>by
  by_cases b:y∈s
  ·have d:=List.eq_append_cons_of_mem b;obtain⟨a,r,rfl,c⟩:=d;rw[Ur c,Xv,zQM c,Yb c,rO y n r (by simp at h;omega)]
  ·rw[zQN b,aK b]
theorem YT(s:ByteArray):(⟨s.data.toList.toArray⟩:ByteArray)=s:=by simp
theorem zLp(y:UInt8)(s:Tx):Lib.splitB ⟨#[y]⟩ 0 (Lib.countB ⟨s.toArray⟩ ⟨#[y]⟩) ⟨s.toArray⟩=(Bj y s).map λt=>(⟨t.toArray⟩:ByteArray):=by
 have h:=Lib.splitB_data ⟨#[y]⟩ 0 (Lib.countB ⟨s.toArray⟩ ⟨#[y]⟩) ⟨s.toArray⟩;have c:Lib.countB ⟨s.toArray⟩ ⟨#[y]⟩=Lib.count s [y]:=rfl;rw[c]at h ⊢;have d:Lib.splitK [y] 0 (Lib.count s [y]) s=Bj y s:=rO y s.length s (Qe _);have e:(Lib.splitB ⟨#[y]⟩ 0 (Lib.count s [y]) ⟨s.toArray⟩).map (·.data.toList)=Bj y s:=h.trans d;rw[<-e,VM];exact((Ja λb _=>YT b).trans (List.map_id _)).symm
end Go.W
namespace Go.Proofs
open Go.Shelf Tryz
def Tryz.lays146_ren:Go.Shelf.Ren:=⟨fun|146=>37|221=>66|268=>120|138=>121|143=>122|195=>193|197=>194|218=>195|219=>63|260=>269|217=>115|225=>116|224=>117|267=>118|266=>187|314=>188|n=>n,fun|9=>9|31=>28|3=>3|4=>4|0=>0|105=>286|21=>21|5=>5|46=>186|119=>427|139=>430|138=>429|146=>278|51=>277|n=>n,fun|1=>0|3=>2|4=>3|n=>n⟩
theorem Tryz.lays146:Go.Proofs.LaysM.n146 prog Tryz.lays146_ren:={
 mixed:=by kernel_rfl
 f138:=W.ff func121
 f143:=W.ff func122
 f146:=W.ff func37
 f195:=W.ff func193
 f197:=W.ff func194
 f217:=W.ff func115
 f218:=W.ff func195
 f219:=W.ff func63
 f221:=W.ff func66
 f224:=W.ff func117
 f225:=W.ff func116
 f260:=W.ff func269
 f266:=W.ff func187
 f267:=W.ff func118
 f268:=W.ff func120
 f314:=W.ff func188
 t0:=underlying0
 a0:=isAgg0
 z0:=sizeOf0
 v0:=zeroValue0
 t3:=underlying3
 a3:=isAgg3
 z3:=sizeOf3
 v3:=zeroValue3
 t4:=underlying4
 a4:=isAgg4
 z4:=sizeOf4
 v4:=zeroValue4
 t5:=underlying5
 a5:=isAgg5
 z5:=sizeOf5
 v5:=zeroValue5
 t9:=underlying9
 a9:=isAgg9
 z9:=sizeOf9
 v9:=zeroValue9
 t21:=underlying21
 a21:=isAgg21
 z21:=sizeOf21
 v21:=zeroValue21
 t31:=underlying28
 a31:=isAgg28
 z31:=sizeOf28
 v31:=zeroValue28
 t46:=underlying186
 a46:=isAgg186
 z46:=sizeOf186
 v46:=zeroValue186
 t51:=underlying277
 a51:=isAgg277
 z51:=sizeOf277
 v51:=zeroValue277
 t105:=underlying286
 a105:=isAgg286
 z105:=sizeOf286
 v105:=zeroValue286
 t119:=underlying427
 a119:=isAgg427
 z119:=sizeOf427
 t138:=underlying429
 a138:=isAgg429
 z138:=sizeOf429
 v138:=zeroValue429
 t139:=underlying430
 a139:=isAgg430
 z139:=sizeOf430
 v139:=zeroValue430
 t146:=underlying278
 a146:=isAgg278
 z146:=sizeOf278
 v146:=zeroValue278
 g1:=by kernel_rfl
 g3:=by kernel_rfl
 g4:=by kernel_rfl
 i0:=by kernel_rfl
 i3:=by kernel_rfl
 i4:=by kernel_rfl
 i5:=by kernel_rfl
 i9:=by kernel_rfl
 i21:=by kernel_rfl
 i31:=by kernel_rfl
 i46:=by kernel_rfl
 i51:=by kernel_rfl
 i105:=by kernel_rfl
 i138:=by kernel_rfl
 i139:=by kernel_rfl
 i146:=by kernel_rfl
 m1:=by kernel_rfl
 s1_3:=λw h=>Go.Proofs.cell_of_shapedOpen_int (zero:=#[.int .i64 0]) (t:=3) h (of_decide_eq_true (by kernel_rfl)) (by kernel_rfl) rfl (by kernel_rfl) (by kernel_rfl) underlying3
 m3:=by kernel_rfl
 m4:=by kernel_rfl }
def Tryz.lays145_ren:Go.Shelf.Ren:=⟨fun|145=>13|220=>33|219=>63|217=>115|225=>116|224=>117|267=>118|266=>187|314=>188|n=>n,fun|9=>9|4=>4|59=>45|3=>3|5=>5|46=>186|146=>278|51=>277|n=>n,fun|1=>0|n=>n⟩
theorem Tryz.lays145:Go.Proofs.LaysM.n145 prog Tryz.lays145_ren:={
 mixed:=by kernel_rfl
 f145:=W.ff func13
 f217:=W.ff func115
 f219:=W.ff func63
 f220:=W.ff func33
 f224:=W.ff func117
 f225:=W.ff func116
 f266:=W.ff func187
 f267:=W.ff func118
 f314:=W.ff func188
 t3:=underlying3
 a3:=isAgg3
 z3:=sizeOf3
 v3:=zeroValue3
 t4:=underlying4
 a4:=isAgg4
 z4:=sizeOf4
 v4:=zeroValue4
 t5:=underlying5
 a5:=isAgg5
 z5:=sizeOf5
 v5:=zeroValue5
 t9:=underlying9
 a9:=isAgg9
 z9:=sizeOf9
 v9:=zeroValue9
 t46:=underlying186
 a46:=isAgg186
 z46:=sizeOf186
 v46:=zeroValue186
 t51:=underlying277
 a51:=isAgg277
 z51:=sizeOf277
 v51:=zeroValue277
 t59:=underlying45
 a59:=isAgg45
 z59:=sizeOf45
 v59:=zeroValue45
 t146:=underlying278
 a146:=isAgg278
 z146:=sizeOf278
 v146:=zeroValue278
 g1:=by kernel_rfl
 i3:=by kernel_rfl
 i4:=by kernel_rfl
 i5:=by kernel_rfl
 i9:=by kernel_rfl
 i46:=by kernel_rfl
 i51:=by kernel_rfl
 i59:=by kernel_rfl
 i146:=by kernel_rfl
 m1:=by kernel_rfl
 s1_3:=λw h=>Go.Proofs.cell_of_shapedOpen_int (zero:=#[.int .i64 0]) (t:=3) h (of_decide_eq_true (by kernel_rfl)) (by kernel_rfl) rfl (by kernel_rfl) (by kernel_rfl) underlying3 }
def Tryz.lays156_ren:Go.Shelf.Ren:=⟨fun|156=>113|165=>185|166=>14|169=>16|240=>34|241=>263|276=>64|277=>345|n=>n,fun|31=>28|9=>9|3=>3|4=>4|0=>0|20=>20|72=>44|76=>49|70=>41|37=>42|75=>48|127=>66|164=>108|5=>5|80=>52|n=>n,fun|n=>n⟩
theorem Tryz.lays156:Go.Proofs.Lays.n156 prog Tryz.lays156_ren:={
 mixed:=by kernel_rfl
 f156:=W.ff func113
 f165:=W.ff func185
 f166:=W.ff func14
 f169:=W.ff func16
 f240:=W.ff func34
 f241:=W.ff func263
 f276:=W.ff func64
 f277:=W.ff func345
 t0:=underlying0
 a0:=isAgg0
 z0:=sizeOf0
 v0:=zeroValue0
 t3:=underlying3
 a3:=isAgg3
 z3:=sizeOf3
 v3:=zeroValue3
 t4:=underlying4
 a4:=isAgg4
 z4:=sizeOf4
 v4:=zeroValue4
 t9:=underlying9
 a9:=isAgg9
 z9:=sizeOf9
 v9:=zeroValue9
 t20:=underlying20
 a20:=isAgg20
 z20:=sizeOf20
 v20:=zeroValue20
 t31:=underlying28
 a31:=isAgg28
 z31:=sizeOf28
 v31:=zeroValue28
 t37:=underlying42
 a37:=isAgg42
 z37:=sizeOf42
 v37:=zeroValue42
 t70:=underlying41
 a70:=isAgg41
 z70:=sizeOf41
 v70:=zeroValue41
 t72:=underlying44
 a72:=isAgg44
 z72:=sizeOf44
 v72:=zeroValue44
 t75:=underlying48
 a75:=isAgg48
 z75:=sizeOf48
 v75:=zeroValue48
 t76:=underlying49
 a76:=isAgg49
 z76:=sizeOf49
 v76:=zeroValue49
 t127:=underlying66
 a127:=isAgg66
 z127:=sizeOf66
 v127:=zeroValue66
 t164:=underlying108
 a164:=isAgg108
 z164:=sizeOf108
 v164:=zeroValue108 }
def Tryz.lays172_ren:Go.Shelf.Ren:=⟨fun|172=>124|244=>197|245=>198|247=>270|279=>271|280=>272|281=>273|282=>274|287=>348|316=>349|171=>36|205=>350|321=>387|322=>388|243=>65|246=>119|283=>189|284=>190|285=>191|286=>192|129=>265|317=>264|318=>266|319=>267|320=>268|337=>346|338=>347|n=>n,fun|9=>9|3=>3|75=>48|76=>49|4=>4|5=>5|167=>367|37=>42|0=>0|85=>368|2=>2|168=>370|53=>281|175=>431|46=>186|210=>434|127=>66|145=>483|143=>481|21=>21|171=>280|173=>284|212=>365|51=>277|20=>20|213=>366|232=>478|233=>479|80=>52|n=>n,fun|15=>4|16=>5|17=>1|18=>6|19=>7|n=>n⟩
theorem Tryz.lays172:Go.Proofs.LaysC.n172 prog Tryz.lays172_ren:={
 mixed:=by kernel_rfl
 f129:=W.ff func265
 f171:=W.ff func36
 f172:=W.ff func124
 f205:=W.ff func350
 f243:=W.ff func65
 f244:=W.ff func197
 f245:=W.ff func198
 f246:=W.ff func119
 f247:=W.ff func270
 f279:=W.ff func271
 f280:=W.ff func272
 f281:=W.ff func273
 f282:=W.ff func274
 f283:=W.ff func189
 f284:=W.ff func190
 f285:=W.ff func191
 f286:=W.ff func192
 f287:=W.ff func348
 f316:=W.ff func349
 f317:=W.ff func264
 f318:=W.ff func266
 f319:=W.ff func267
 f320:=W.ff func268
 f321:=W.ff func387
 f322:=W.ff func388
 f337:=W.ff func346
 f338:=W.ff func347
 t0:=underlying0
 a0:=isAgg0
 z0:=sizeOf0
 v0:=zeroValue0
 t2:=underlying2
 a2:=isAgg2
 z2:=sizeOf2
 v2:=zeroValue2
 t3:=underlying3
 a3:=isAgg3
 z3:=sizeOf3
 v3:=zeroValue3
 t4:=underlying4
 a4:=isAgg4
 z4:=sizeOf4
 v4:=zeroValue4
 t5:=underlying5
 a5:=isAgg5
 z5:=sizeOf5
 v5:=zeroValue5
 t9:=underlying9
 a9:=isAgg9
 z9:=sizeOf9
 v9:=zeroValue9
 t20:=underlying20
 a20:=isAgg20
 z20:=sizeOf20
 v20:=zeroValue20
 t21:=underlying21
 a21:=isAgg21
 z21:=sizeOf21
 v21:=zeroValue21
 t37:=underlying42
 a37:=isAgg42
 z37:=sizeOf42
 v37:=zeroValue42
 t46:=underlying186
 a46:=isAgg186
 z46:=sizeOf186
 v46:=zeroValue186
 t51:=underlying277
 a51:=isAgg277
 z51:=sizeOf277
 v51:=zeroValue277
 t53:=underlying281
 a53:=isAgg281
 z53:=sizeOf281
 v53:=zeroValue281
 t75:=underlying48
 a75:=isAgg48
 z75:=sizeOf48
 v75:=zeroValue48
 t76:=underlying49
 a76:=isAgg49
 z76:=sizeOf49
 v76:=zeroValue49
 t85:=underlying368
 a85:=isAgg368
 z85:=sizeOf368
 v85:=zeroValue368
 t127:=underlying66
 a127:=isAgg66
 z127:=sizeOf66
 v127:=zeroValue66
 t143:=underlying481
 a143:=isAgg481
 z143:=sizeOf481
 v143:=zeroValue481
 t145:=underlying483
 a145:=isAgg483
 z145:=sizeOf483
 v145:=zeroValue483
 t167:=underlying367
 a167:=isAgg367
 z167:=sizeOf367
 v167:=zeroValue367
 t168:=underlying370
 a168:=isAgg370
 z168:=sizeOf370
 v168:=zeroValue370
 t171:=underlying280
 a171:=isAgg280
 z171:=sizeOf280
 v171:=zeroValue280
 t173:=underlying284
 a173:=isAgg284
 z173:=sizeOf284
 v173:=zeroValue284
 t175:=underlying431
 a175:=isAgg431
 z175:=sizeOf431
 v175:=zeroValue431
 t210:=underlying434
 a210:=isAgg434
 z210:=sizeOf434
 v210:=zeroValue434
 t212:=underlying365
 a212:=isAgg365
 z212:=sizeOf365
 v212:=zeroValue365
 t213:=underlying366
 a213:=isAgg366
 z213:=sizeOf366
 t232:=underlying478
 a232:=isAgg478
 z232:=sizeOf478
 v232:=zeroValue478
 t233:=underlying479
 a233:=isAgg479
 z233:=sizeOf479
 v233:=zeroValue479
 g15:=by kernel_rfl
 g16:=by kernel_rfl
 g17:=by kernel_rfl
 g18:=by kernel_rfl
 g19:=by kernel_rfl
 t80:=underlying52
 a80:=isAgg52
 z80:=sizeOf52
 v80:=zeroValue52
 i0:=by kernel_rfl
 i2:=by kernel_rfl
 i3:=by kernel_rfl
 i4:=by kernel_rfl
 i5:=by kernel_rfl
 i9:=by kernel_rfl
 i20:=by kernel_rfl
 i21:=by kernel_rfl
 i37:=by kernel_rfl
 i46:=by kernel_rfl
 i51:=by kernel_rfl
 i53:=by kernel_rfl
 i75:=by kernel_rfl
 i76:=by kernel_rfl
 i80:=by kernel_rfl
 i85:=by kernel_rfl
 i127:=by kernel_rfl
 i143:=by kernel_rfl
 i145:=by kernel_rfl
 i167:=by kernel_rfl
 i168:=by kernel_rfl
 i171:=by kernel_rfl
 i173:=by kernel_rfl
 i175:=by kernel_rfl
 i210:=by kernel_rfl
 i212:=by kernel_rfl
 i232:=by kernel_rfl
 i233:=by kernel_rfl
 m15:=by kernel_rfl
 m16:=by kernel_rfl
 m17:=by kernel_rfl
 m18:=by kernel_rfl
 m19:=by kernel_rfl
 c0:=by kernel_rfl
 c2:=by kernel_rfl
 c3:=by kernel_rfl
 c4:=by kernel_rfl
 c5:=by kernel_rfl
 c9:=by kernel_rfl
 c20:=by kernel_rfl
 c21:=by kernel_rfl
 c37:=by kernel_rfl
 c46:=by kernel_rfl
 c51:=by kernel_rfl
 c53:=by kernel_rfl
 c75:=by kernel_rfl
 c76:=by kernel_rfl
 c80:=by kernel_rfl
 c85:=by kernel_rfl
 c127:=by kernel_rfl
 c143:=by kernel_rfl
 c145:=by kernel_rfl
 c167:=by kernel_rfl
 c168:=by kernel_rfl
 c171:=by kernel_rfl
 c173:=by kernel_rfl
 c175:=by kernel_rfl
 c210:=by kernel_rfl
 c212:=by kernel_rfl
 c213:=by kernel_rfl
 c232:=by kernel_rfl
 c233:=by kernel_rfl }
def Tryz.lays171_ren:Go.Shelf.Ren:=⟨fun|171=>36|243=>65|246=>119|283=>189|284=>190|285=>191|286=>192|129=>265|317=>264|318=>266|319=>267|320=>268|337=>346|338=>347|n=>n,fun|3=>3|9=>9|2=>2|4=>4|171=>280|0=>0|53=>281|37=>42|5=>5|173=>284|212=>365|51=>277|20=>20|213=>366|46=>186|232=>478|233=>479|n=>n,fun|17=>1|18=>6|19=>7|n=>n⟩
theorem Tryz.lays171:Go.Proofs.LaysM.n171 prog Tryz.lays171_ren:={
 mixed:=by kernel_rfl
 f129:=W.ff func265
 f171:=W.ff func36
 f243:=W.ff func65
 f246:=W.ff func119
 f283:=W.ff func189
 f284:=W.ff func190
 f285:=W.ff func191
 f286:=W.ff func192
 f317:=W.ff func264
 f318:=W.ff func266
 f319:=W.ff func267
 f320:=W.ff func268
 f337:=W.ff func346
 f338:=W.ff func347
 t0:=underlying0
 a0:=isAgg0
 z0:=sizeOf0
 v0:=zeroValue0
 t2:=underlying2
 a2:=isAgg2
 z2:=sizeOf2
 v2:=zeroValue2
 t3:=underlying3
 a3:=isAgg3
 z3:=sizeOf3
 v3:=zeroValue3
 t4:=underlying4
 a4:=isAgg4
 z4:=sizeOf4
 v4:=zeroValue4
 t5:=underlying5
 a5:=isAgg5
 z5:=sizeOf5
 v5:=zeroValue5
 t9:=underlying9
 a9:=isAgg9
 z9:=sizeOf9
 v9:=zeroValue9
 t20:=underlying20
 a20:=isAgg20
 z20:=sizeOf20
 v20:=zeroValue20
 t37:=underlying42
 a37:=isAgg42
 z37:=sizeOf42
 v37:=zeroValue42
 t46:=underlying186
 a46:=isAgg186
 z46:=sizeOf186
 v46:=zeroValue186
 t51:=underlying277
 a51:=isAgg277
 z51:=sizeOf277
 v51:=zeroValue277
 t53:=underlying281
 a53:=isAgg281
 z53:=sizeOf281
 v53:=zeroValue281
 t171:=underlying280
 a171:=isAgg280
 z171:=sizeOf280
 v171:=zeroValue280
 t173:=underlying284
 a173:=isAgg284
 z173:=sizeOf284
 v173:=zeroValue284
 t212:=underlying365
 a212:=isAgg365
 z212:=sizeOf365
 v212:=zeroValue365
 t213:=underlying366
 a213:=isAgg366
 z213:=sizeOf366
 t232:=underlying478
 a232:=isAgg478
 z232:=sizeOf478
 v232:=zeroValue478
 t233:=underlying479
 a233:=isAgg479
 z233:=sizeOf479
 v233:=zeroValue479
 g17:=by kernel_rfl
 g18:=by kernel_rfl
 g19:=by kernel_rfl
 i0:=by kernel_rfl
 i2:=by kernel_rfl
 i3:=by kernel_rfl
 i4:=by kernel_rfl
 i5:=by kernel_rfl
 i9:=by kernel_rfl
 i20:=by kernel_rfl
 i37:=by kernel_rfl
 i46:=by kernel_rfl
 i51:=by kernel_rfl
 i53:=by kernel_rfl
 i171:=by kernel_rfl
 i173:=by kernel_rfl
 i212:=by kernel_rfl
 i232:=by kernel_rfl
 i233:=by kernel_rfl
 m17:=by kernel_rfl
 m18:=by kernel_rfl
 m19:=by kernel_rfl }
end Go.Proofs
namespace Go.Proofs
open Go.Shelf Tryz
theorem Tryz.lays156X:Builder.Extra prog Tryz.lays156_ren:={
 sizeBuilder:=by kernel_rfl
 liesBuilder:=by kernel_rfl
 t5:=underlying5
 a5:=isAgg5
 z5:=sizeOf5
 v5:=zeroValue5
 infoByte:=by kernel_rfl
 cellsByte:=by kernel_rfl
 sizeByte:=by kernel_rfl
 neB5:=by decide }
end Go.Proofs
namespace Go.W
open Go Go.Proofs Go.RowKit
open AK (enc)
set_option maxRecDepth 10000
variable {B N i j k m n n2 n3:Nat} {P:Program} {a a2 a3:OA} {g:An} {ps:List Int} {q:FX} {s:U8} {u u' w w' w1 w2:World}
abbrev nPw:String:=Go.Proofs.YtnanheiakfekdaaGreatDoor.Rows.deskGrowsRow.named.headD ""
structure HY (w:World):Prop where
 mx:∃m,w.cell? ⟨Tryz.lays145_ren.g 1,0,none⟩=some (.int .i64 m)
 tab : Lib.TabIs PP w nPw .u64 Lib.pow10Tab
 syn : ∃ t p, w.var? PP "strconv.ErrSyntax" = some #[.iface t p]
 rng : ∃ t p, w.var? PP "strconv.ErrRange" = some #[.iface t p]
theorem zOH(e:Bp w w'){a:Addr}{v:Value}(h:w.cell? a=some v):w'.cell? a=some v:=by
 unfold World.cell? at *
 cases hb:w.heap[a.block]? with
 |none=>rw[hb]at h;cases h
 |some o=>rw[e.block _ (Ad hb) (λh=>h),hb];rw[hb]at h;exact h
theorem kN(e:Bp w w'){s:String}{cs:Array Value}(h:w.var? PP s=some cs):w'.var? PP s=some cs:=by
 unfold World.var? at *
 cases b:Program.globalNamed PP s with
 |none=>rw[b]at h;cases h
 |some g =>
  rw[b]at h;have h:(match w.heap[g]? with|some (.cells cs _ _)=>some cs|_=>none)=some cs:=h;show(match w'.heap[g]? with|some (.cells cs _ _)=>some cs|_=>none)=some cs
  cases hb:w.heap[g]? with
  |none=>rw[hb]at h;cases h
  |some o=>rw[e.block _ (Ad hb) (λh=>h),hb];rw[hb]at h;exact h
theorem HY.ext(G:HY w)(e:Bp w w'):HY w':=by
 obtain⟨⟨m,b⟩,c,⟨d,f,h⟩,⟨l,o,p⟩⟩:=G;exact⟨⟨m,zOH e b⟩,kN e c,⟨d,f,kN e h⟩,⟨l,o,kN e p⟩⟩
theorem HY.up[L:Le w w'](G:HY w):HY w':=G.ext L.e
theorem aW(h:Below w.heap.size w w'):Bp w w':=
 ⟨h.os,h.tape,h.output,h.size,λb hb _=>h.block b hb,λb o hb _=>by rw[h.block b (Ad hb)];exact hb⟩
theorem iS:∀l:List ByteArray,Ac l=l.map Value.string
 |[]=>rfl
 |x::r=>by show [Value.string x]++Ac r=_;rw[iS r];rfl
theorem Wr(y:UInt8):∀s:Tx,(Bj y s).length<=s.length+1
 |[]=>by simp[Bj]
 |c::r=>by
  have:=Wr y r;unfold Bj;split
  ·simpa using this
  ·split
   ·simp
   ·rename_i h;rw[h]at this;simpa using Nat.le_succ_of_le this
section
variable {w:World} {s:Tx}
theorem yP(G:HY w)(b:s.length<4294967281){sep:Tx}:Sp PP 13 #[Ag s,Ag sep] w λv w'=>v=.tuple #[Ag (Lib.cut s sep).1,Ag (Lib.cut s sep).2.1,.bool (Lib.cut s sep).2.2]/\AC w w':=by
 have c:=G.mx;obtain⟨m,d⟩:=c;refine⟨AB.can (f:=13) inferInstance,(Any.strings_Cut { Tryz.lays145 with } ⟨s.toArray⟩ ⟨sep.toArray⟩ m w (by rw[AM];exact b) d).mono ?_⟩;rintro en w' ⟨rfl,n,rfl⟩;exact⟨rfl,⟨⟨rfl,rfl,rfl,Qe _,λ_ _ _=>rfl,λ_ _ h _=>h⟩⟩⟩
theorem zHs(G:HY w)(c:s.length<4294967281){y:UInt8}:Sp PP 37 #[Ag s,.string ⟨#[y]⟩] w λv w'=>AD w.heap.size 9 w' v ((Bj y s).map λt=>(⟨t.toArray⟩:ByteArray))/\AC w w':=by
 have d:=G.mx;obtain⟨m,e⟩:=d;refine⟨AB.can (f:=37) inferInstance,(Any.strings_Split { Tryz.lays146 with } Tryz.lays146.i9 ⟨s.toArray⟩ ⟨#[y]⟩ m w (by rw[AM];exact c) e (show 1<=1 from Qe 1)).mono ?_⟩;rintro en w' ⟨rfl,rfl⟩;have b:=zLp y s
 have h:(Lib.countB ⟨s.toArray⟩ ⟨#[y]⟩)+1=(Bj y s).length:=by
  have:=congrArg List.length b;rw[Lib.splitB_all ⟨#[y]⟩ (show 1<=1 from Qe 1) 0 _ _ rfl,Qr]at this;exact this
 rw[b];show _/\AC w _;have N:Lk w (w.alloc (.cells (((Bj y s).map λt=>(⟨t.toArray⟩:ByteArray)).map Value.string).toArray 9)) w.heap.size (((Bj y s).map λt=>(⟨t.toArray⟩:ByteArray)).map Value.string).toArray 9:=Lk.mk' _ _ _;have:=Wr y s;exact⟨N.own (iS _).symm (by simp_all) (by omega) (Qe _),⟨N.ext⟩⟩
theorem vH{c:Nat}{l:List Tx}{sep:Tx}(S:AQ w (.slice a n c) (l.map λt=>(⟨t.toArray⟩:ByteArray)))(e:l≠[])(F:(Lib.join l sep).length<=140737488355328)(G:l.length<=140737488355328):Sp PP 113 #[.slice a n c,Ag sep] w λv w'=>v=Ag (Lib.join l sep)/\AC w w':=by
 obtain⟨H,I,z,A,h⟩:=S;injection z with h1 h2 h3;subst h1 h2 h3;rcases h with h|⟨b,o,rfl,p⟩
 ·exact absurd (List.map_eq_nil_iff.1 h) e
 have C:(l.map λt=>(⟨t.toArray⟩:ByteArray)).map (·.data.toList)=l:=by rw[VM];exact(Ja λt _=>rfl).trans (List.map_id _)
 have d:∀(j:Nat) x,(l.map λt=>(⟨t.toArray⟩:ByteArray))[j]? = some x->w.cell? ⟨b,o+j,none⟩=some (.string x):=λj x D=>p j _ (by rw[iS,QK,D];rfl)
 have hb:b<w.heap.size:=by
  cases l with
  |nil=>exact absurd rfl e
  |cons t r=>exact Lib.lt_of_cell (d 0 _ rfl)
 have y:=Any.strings_Join Tryz.lays156 Tryz.lays156X b o c (l.map λt=>(⟨t.toArray⟩:ByteArray)) ⟨sep.toArray⟩ w d hb (by simp_all) A (by simp_all);rw[C]at y;refine⟨AB.can (f:=113) inferInstance,y.mono ?_⟩;rintro en w' ⟨rfl,E⟩;exact⟨rfl,⟨aW E⟩⟩
theorem TD(G:HY w){n:Int}(b:-9223372036854775808<=n/\n<=9223372036854775807):Sp PP 36 #[.int .i64 n] w λv w'=>v=Ag (Lib.itoa n)/\AC w w':=by
 refine⟨AB.can (f:=36) inferInstance,(Any.strconv_Itoa Tryz.lays171 n b.1 b.2 w G.tab).mono ?_⟩;rintro en w' ⟨rfl,k,os,rfl⟩;exact⟨rfl,⟨Gw.ext ⟨k,os,rfl⟩⟩⟩
theorem zIc(G:HY w)(hs:s.length<=1000000):Sp PP 124 #[Ag s] w λv w'=>((∃n,Lib.atoiAll s=.ok n/\v=.tuple #[.int .i64 n,.nilIface])\/((∀n,Lib.atoiAll s≠.ok n)/\∃m t p,v=.tuple #[.int .i64 m,.iface t p]))/\AC w w':=by
 have hl:(⟨s.toArray⟩:ByteArray).size<=1000000:=by rw[AM];exact hs
 refine⟨AB.can (f:=124) inferInstance,?_⟩;rcases h:Lib.atoiAll s with n|_|_
 ·skip
  refine(Any.strconv_Atoi_ok Tryz.lays172 ⟨s.toArray⟩ (by omega) n h w).mono ?_;rintro en w' ⟨rfl,hw⟩;refine⟨.inl ⟨n,rfl,rfl⟩,⟨aW ?_⟩⟩;rcases hw with rfl|⟨t,rfl⟩
  ·exact Below.refl _ _
  ·exact Lib.bytesWorld_below _ _ _
 ·skip
  have⟨t,p,hv⟩:=G.syn;refine(Any.strconv_Atoi_syntax_var Tryz.lays172 ⟨s.toArray⟩ (by omega) h t p w hv).mono ?_;rintro en w' ⟨N,rfl,_,_,hb⟩;exact⟨.inr ⟨(λn e=>(by cases e)),_,_,_,rfl⟩,⟨aW hb⟩⟩
 ·skip
  have⟨t,p,hv⟩:=G.rng;refine(Any.strconv_Atoi_range_var Tryz.lays172 ⟨s.toArray⟩ (by omega) h t p w hv).mono ?_;rintro en w' ⟨N,rfl,_,_,hb⟩;exact⟨.inr ⟨(λn e=>(by cases e)),_,_,_,rfl⟩,⟨aW hb⟩⟩
end
theorem zET{s p:Tx}(l:s.length<=1000000):Sp PP 196 #[Ag s,Ag p] w λv w'=>Ao (p <:+ s) v/\w'=w:=by
 have b:=AM s;have o:=AM p;refine eN ?_;refine ite (λc=>?_) (λc=>⟨.f (λh=>?_),rfl⟩)
 ·refine rF (s.length - p.length) (Ks (lo:=s.length - p.length) rfl (by omega) ?_)
  have e:(⟨s.toArray⟩:ByteArray).extract (s.length - p.length) (⟨s.toArray⟩:ByteArray).size=⟨(s.drop (s.length - p.length)).toArray⟩:=by
   rw[b,Na,<-QR,Qg]
  rw[e];refine DL (λh=>⟨.t ?_,rfl⟩) (λh=>⟨.f (λd=>h ?_),rfl⟩)
  ·have:=ST h;rw[<-this];exact List.drop_suffix _ _
  ·obtain⟨t,rfl⟩:=d;simp
 ·have:=h.length_le;omega
theorem zER{s p:Tx}(d:s.length<=1000000):Sp PP 67 #[Ag s,Ag p] w λv w'=>((p <:+ s/\v=.tuple #[Ag (s.take (s.length - p.length)),.bool true])\/(¬p <:+ s/\v=.tuple #[Ag s,.bool false]))/\w'=w:=by
 have o:=AM s;have r:=AM p
 have f:Sp PP 123 #[Ag s,Ag p] w λv w'=>((p <:+ s/\v=.tuple #[Ag (s.take (s.length - p.length)),.bool true])\/(¬p <:+ s/\v=.tuple #[Ag s,.bool false]))/\w'=w:=by
  refine eN ?_;refine AA (zET d) ?_;rintro _ _ ⟨⟨rfl,c⟩|⟨rfl,c⟩,rfl⟩
  ·have l:=c.length_le;refine rF (s.length - p.length) (Hh (hi:=s.length - p.length) rfl (by omega) ?_)
   have e:(⟨s.toArray⟩:ByteArray).extract 0 (s.length - p.length)=⟨(s.take (s.length - p.length)).toArray⟩:=by
    rw[Na];simp
   exact⟨.inl ⟨c,congrArg (λb=>Value.tuple #[.string b,.bool true]) e⟩,rfl⟩
  ·exact⟨.inr ⟨c,rfl⟩,rfl⟩
 refine eN ?_;refine AA f ?_;rintro _ _ ⟨h,rfl⟩;rcases h with⟨h,rfl⟩|⟨h,rfl⟩
 ·exact⟨.inl ⟨h,rfl⟩,rfl⟩
 ·exact⟨.inr ⟨h,rfl⟩,rfl⟩
open Go Go.Proofs
section
variable {g:An} {c:DN}
end
section
variable {g:An} {c:DN}
end
theorem zGY{h:AG}:Sp PP 259 #[agg h] w λv w'=>Ao (¬Ey h) v/\AC w w':=by
 refine eN ?_;refine BM λp w1 n1 b=>rX b rfl (ite (λc=>⟨.t (λe=>by have:=e.1;omega),stp⟩) (λc=>?_));refine rX b rfl (ite (λd=>⟨.t (λe=>by have:=e.2.1;omega),stp⟩) (λd=>?_));refine rX b rfl (ite (λl=>⟨.t (λe=>by have:=e.2.2.1;omega),stp⟩) (λl=>?_));refine rX b rfl (ite (λo=>⟨.t (λe=>by have:=e.2.2.2;omega),stp⟩) (λo=>⟨.f (λe=>e ⟨by omega,by omega⟩),stp⟩))
theorem zDv{c:Nat}{l:List AG}(h:AQ w (.slice a n c) l)(A:l.length<=1000000):
  Sp PP 344 #[.slice a n c,.func (.func 259) #[] #[]] w λv w'=>((∃k:Nat,v=.int .i64 (k:Int)/\∃y∈l,¬Ey y)\/(v=.int .i64 (-1)/\∀y∈l,Ey y))/\AC w w':=by
 have f:=h.len;obtain rfl:=f;refine eN ?_;refine cN 9 [4,5] 8 l.length (λk u=>(∀y∈l.take k,Ey y)/\AC w u) ⟨by simp,stp⟩ ?_;rintro k g u C ⟨b,e⟩;refine ite (λAY=>?_) (λr=>?_)
 ·have o:k<l.length:=by omega
  refine Bv (h.up (w':=u)) (x:=l[k]) (by simp) λD E z=>Ai z rfl (AA (zGY (h:=l[k])) ?_);rintro _ F ⟨⟨rfl,p⟩|⟨rfl,p⟩,G⟩
  ·exact⟨.inl ⟨k,rfl,l[k],Qa _,p⟩,stp⟩
  ·refine rA ⟨rfl,o,λt d=>?_,stp⟩;rw[Cs o]at d;have f:=Qf.1 d;rcases f with d|d
   ·exact b t d
   ·rw[Qc.1 d];exact Q2.1 p
 ·have f:k=l.length:=by omega
  obtain rfl:=f;rw[Qj (Qe _)]at b;exact⟨.inr ⟨rfl,b⟩,stp⟩
theorem pH{c:Nat}{l:List AG}(h:AQ w (.slice a n c) l)(e:l.length<=1000000):
  Sp PP 260 #[.slice a n c,.func (.func 259) #[] #[]] w λv w'=>Ao (∃y∈l,¬Ey y) v/\AC w w':=by
 refine eN ?_;refine AA (zDv h e) ?_;rintro _ r ⟨⟨k,rfl,d⟩|⟨rfl,d⟩,x⟩
 ·refine ite (λb=>⟨.t d,stp⟩) (λb=>absurd b (by omega))
 ·refine ite (λb=>absurd b (by omega)) (λb=>⟨.f (λ⟨y,o,p⟩=>p (d y o)),stp⟩)
theorem iO{x : CG}{l : List AG}(h : AQ w (.slice x.a.s.a x.a.s.n x.a.s.c) l)(W : l.length <= 1000000) :
    Sp PP 179 #[agg x] w λv w' => Ao (BG x l) v /\ AC w w' := by
  obtain⟨id, o, D, d, E, sn, F⟩ := x;have r : sn = l.length := h.len;have no : ∀ u : World, AC w u -> ¬ BG ⟨id, o, D, d, E, sn, F⟩ l -> Ao (BG ⟨id, o, D, d, E, sn, F⟩ l) (.bool false) /\ AC w u := λu s hf => ⟨.f hf, s⟩;have X : l.length = 0 -> l = [] := Qn;refine eN ?_;refine BM λb1 w1 n1 C => (Cq (ds := enc (⟨D, d, E, sn, F⟩ : NN)) (B := C) rfl rfl (Ap λb2 w2 n2 K => (DI (B := K) (vs := enc (⟨D, d, E, sn, F⟩ : NN)) rfl rfl rfl (AK.one _) λG Y Z _ => ?_)));have s3 : AC w1 G := ⟨Fr.st Le.e Z λi hi => by subst hi; exact n2.lo⟩;have z : Bk G b2 [.bool D, .int .i64 d, .slice E sn F] 171 := Y;have C := C.mv (w := G);clear Y K Z;refine Cx (B := z) rfl (ite (λ(L : d = 0) => ?pp) (λ(L : ¬ d = 0) => ?n1))
  case' pp =>
    refine Cx (B := z) rfl (ite (λ(K : (sn : Int) = 0) => ?yy) (λ(K : ¬ (sn : Int) = 0) => ?n2))
  case' n1 => have A : ¬ (d = 0 /\ l = []) := λe => L e.1
  case' n2 => have A : ¬ (d = 0 /\ l = []) := λe => by rw[e.2]at r; simp at r; omega
  case' yy => have A : d = 0 /\ l = [] := ⟨L, X (by omega)⟩
  all_goals
    refine Cx (B := C) rfl (ite (λ(h : id < 0) => no _ stp λe => by have := e.1.1; dsimp only at this; omega) (λ(h1 : ¬ id < 0) => ?_));refine Cx (B := C) rfl (ite (λ(h : 2147483647 < id) => no _ stp λe => by have := e.1.2; dsimp only at this; omega) (λ(h2 : ¬ 2147483647 < id) => ?_));refine Cx (B := C) rfl (ite (λ(h : o < 0) => no _ stp λe => by have := e.2.1.1; dsimp only at this; omega) (λ(h3 : ¬ o < 0) => ?_));refine Cx (B := C) rfl (ite (λ(h : 1000 < o) => no _ stp λe => by have := e.2.1.2; dsimp only at this; omega) (λ(h4 : ¬ 1000 < o) => ?_));have p : (0 <= id /\ id <= 2147483647) /\ (0 <= o /\ o <= 1000) := ⟨⟨by omega, by omega⟩, by omega, by omega⟩;refine Cx (B := C) rfl (ite (λ(H : o ≠ 0) => ?_) (λ(H : ¬ o ≠ 0) => ?_))
    · cases D
      · first
        | exact no _ stp λe => A (e.2.2.2.2.1 H).2
        | (refine Cx (B := z) rfl ?_
           exact⟨.t ⟨p.1, p.2, ⟨by show 0 <= d; omega, by simp_all⟩, by rw[A.2]; simp, λ_ => ⟨rfl, A⟩, λ_ => A, .inl A.2, by rw[A.2]; simp⟩, stp⟩)
      · first
        | exact no _ stp λe => (by cases (e.2.2.2.2.1 H).1)
        | (refine Cx (B := z) rfl ?_
           exact no _ stp λe => (by cases (e.2.2.2.2.1 H).1))
    · have I : o = 0 := Q2.1 H
      refine Cx (B := z) rfl ?_;cases D
      · first
        | exact no _ stp λe => A (e.2.2.2.2.2.1 rfl)
        | (refine Cx (B := z) rfl ?_
           exact⟨.t ⟨p.1, p.2, ⟨by show 0 <= d; omega, by simp_all⟩, by rw[A.2]; simp, λh => absurd I h, λ_ => A, .inl A.2, by rw[A.2]; simp⟩, stp⟩)
      · refine Cx (B := z) rfl (ite (λ(h5 : 0 <= d) => ?_) (λ(h5 : ¬ 0 <= d) => no _ stp λe => by have := e.2.2.1.1; dsimp only at this; omega))
        refine Cx (B := z) rfl (ite (λ(h6 : d <= 400) => ?_) (λ(h6 : ¬ d <= 400) => no _ stp λe => by have := e.2.2.1.2; dsimp only at this; omega));refine Cx (B := z) rfl (ite (λ(h7 : (sn : Int) <= 100) => ?_) (λ(h7 : ¬ (sn : Int) <= 100) => no _ stp λe => by have := e.2.2.2.1; omega))
        have go : (l = [] \/ d = 0) -> ∀ {u : World} {v : Value}, Ao (∃ y ∈ l, ¬ Ey y) v -> ∃ b : Bool, v = .bool b /\ Ao (BG ⟨id, o, true, d, E, sn, F⟩ l) (.bool (!b)) := by
          rintro ho u v (⟨rfl, y, M, O⟩|⟨rfl, hy⟩)
          · exact⟨true, rfl, .f λe => O (e.2.2.2.2.2.2.2 y M)⟩
          · exact⟨false, rfl, .t ⟨p.1, p.2, ⟨h5, h6⟩, by omega, λh => absurd I h, (λh => (by cases h)), ho, λy Q => Q2.1 λh => hy ⟨y, Q, h⟩⟩⟩
        refine Cx (B := z) rfl (ite (λ(R : d = 0) => ?_) (λ(R : ¬ d = 0) => ?_))
        · refine Cx (B := z) rfl (AA (pH (h.up (w' := G)) W) ?_)
          rintro v S ⟨T, e4⟩;have J := go (.inr R) (u := S) T;obtain⟨b, rfl, U⟩ := J;exact⟨U, stp⟩
        · refine Cx (B := z) rfl ?_
          refine ite (λ(h9 : (sn : Int) = 0) => ?_) (λ(h9 : ¬ (sn : Int) = 0) => no _ stp λe => by
            have J := e.2.2.2.2.2.2.1;rcases J with V|V
            · rw[V]at r; simp at r; omega
            · exact R V)
          refine Cx (B := z) rfl (AA (pH (h.up (w' := G)) W) ?_);rintro v S ⟨T, e4⟩;have J := go (.inl (X (by omega))) (u := S) T;obtain⟨b, rfl, U⟩ := J;exact⟨U, stp⟩
def Dn (n:Nat):List (Nat×Bool):=if h:n<128 then[(n,false)] else(n % 128,true)::Dn (n / 128)
termination_by n
decreasing_by omega
theorem gZ(h:n<128):Dn n=[(n,false)]:=by rw[Dn,dif_pos h]
theorem gH(h:¬n<128):Dn n=(n % 128,true)::Dn (n / 128):=by rw[Dn,dif_neg h]
def Nq (p:Nat×Bool):List Value:=[.int .i64 (p.1:Int),.bool p.2]
def SC (p:Nat×Bool):UInt8:=UInt8.ofNat (if p.2 then p.1+128 else p.1)
theorem uY(n:Nat):(Dn n).map SC=AL n:=by
 induction n using Nat.strongRecOn with
 |ind n b =>
  by_cases h:n<128
  ·rw[gZ h,Ex h];rfl
  ·rw[gH h,WS h,QS,b (n / 128) (by omega)];congr 1;show UInt8.ofNat (n % 128+128)=_;rw[Xv]
theorem zM7(n:Nat):∀p∈Dn n,p.1<128:=by
 induction n using Nat.strongRecOn with
 |ind n c =>
  by_cases h:n<128
  ·rw[gZ h];intro p b;simp at b;subst b;exact h
  ·rw[gH h];intro p b;have d:=Ql.1 b;rcases d with rfl|b
   ·show n % 128<128;omega
   ·exact c (n / 128) (by omega) p b
theorem zT(h:n<=2147483647):(Dn n).length<=5:=by
 have:=LH h;rw[<-uY,Qr]at this;exact this
abbrev xT (b:Nat) (u u':World):Prop:=Fr (λi=>i=b) u u'/\∃x,Bk u b [.int .i64 x] 3
abbrev pK (b:Nat) (u u':World):Prop:=∀x,Bk u b [.int .i64 x] 3->Bk u' b [.int .i64 x] 3
theorem zM6{b:Nat}(C:n<=2147483647):Uh PP 220 [] [.pointer (some ⟨b,0,none⟩)] (xT b) (pK b) (λu=>Bk u b [.int .i64 (n:Int)] 3)
  (λc x _=>∃rest,c++x::rest=(Dn n).map Nq) (λc=>c=(Dn n).map Nq):=by
 refine⟨λy J L w D E v h0 F=>?_⟩;refine eN ?_;refine Zw Aa 4 [2,3] (λu=>∃c m:_,c++(Dn m).map Nq=(Dn n).map Nq/\J c u/\Bk u b [.int .i64 ((m:Nat):Int)] 3/\m<=2147483647) (RR b) rfl ⟨[],n,rfl,h0,F,C⟩ ?_;rintro g u ⟨c,m,e,G,B,M⟩;refine rX B rfl (Ys (z:=((m % 128:Nat):Int)) (by omega) (by omega) (by omega) ?_);refine rX B rfl (Nr (q:=((m / 128:Nat):Int)) (by omega) (by simp) (by omega) ?_);refine rS B [.int .i64 _] (HT _) λA o H _=>rX o rfl ?_;have f:=D _ _ _ G ⟨H,_,B⟩;refine ite (λKw=>?_) (λI=>?_)
 ·have hd:=gH (n:=m) (by omega);refine IR (vs:=Nq (m % 128,true)) rfl rfl rfl rfl (v c A _ ⟨(Dn (m / 128)).map Nq,by simp_all⟩ f) ?_;rintro bb K ⟨⟨rfl,d⟩|⟨rfl,p⟩,r⟩
  ·have l:=r _ o;refine rX l rfl (iF (by omega) ?_);refine⟨⟨c++[Nq (m % 128,true)],m / 128,by rw[Qp,<-e,hd];rfl,d,l,by omega⟩,?_⟩;rw[oS l,oS B];omega
  ·exact .inr p
 ·have hd:=gZ (n:=m) (by omega);have t:m % 128=m:=by omega
  refine IR (vs:=Nq (m,false)) rfl rfl rfl (by rw[<-t];exact congrArg (λq:Nat=>[Value.int .i64 (q:Int),.bool false]) (by omega)) (v c A _ ⟨[],by simp_all⟩ f) ?_;rintro bb K ⟨⟨rfl,d⟩|⟨rfl,p⟩,r⟩
  ·have l:=r _ o;refine rX l rfl (iT (by omega) (.inl ⟨_,?_,d⟩));rw[<-e,hd];rfl
  ·exact .inr p
theorem zD{n:Int}:Sp PP 159 #[.int .i64 n] w λv w'=>(∃b,v=.func (.func 220) #[] #[.pointer (some ⟨b,0,none⟩)]/\w.heap.size<=b/\Bk w' b [.int .i64 n] 3)/\AC w w':=by
 refine eN ?_;refine BM λc w1 n1 d=>?_;exact⟨⟨c,rfl,n1.lo,d⟩,stp⟩
theorem rQ{n : Int} : Sp PP 101 #[.int .i64 n] w λv w' => v = Rt n /\ AC w w' := by
  have no : ¬ (0 <= n /\ n <= 2147483647) -> Rt n = .tuple #[Ag [], .int .i64 1] := λh => if_neg h;refine eN ?_;refine ite (λh => ⟨(no (by omega)).symm, stp⟩) (λo => ?_);refine ite (λh => ⟨(no (by omega)).symm, stp⟩) (λC => ?_);have ok : Rt n = .tuple #[Ag (AL n.toNat), .int .i64 0] := if_pos (by omega);clear no;have A : ∃ N : Nat, n = (N : Int) := ⟨n.toNat, by omega⟩;obtain⟨N, rfl⟩ := A;rw[QW]at ok;have S : N <= 2147483647 := by omega
  have a0 := zT S;refine Ap λb4 w1 n1 B4 => (AA (zD (n := (N : Int))) ?_);rintro v w2 ⟨⟨H, rfl, a1, Bd⟩, e2⟩;have C4 := B4.mv (w := w2);have a4 := n1.b; have a5 := n1.s;have T := Le.size (a := w) (b := w2)
  refine Nm Aa rfl (gf := 220) (first := []) (cap := [.pointer (some ⟨H, 0, none⟩)]) (Rc := λc u => (∃ D, Fr D c u) /\ pK H c u) rfl rfl (zM6 (b := H) S)
    (by rintro t x _ ⟨rest, h⟩
        have : x ∈ (Dn N).map Nq := by rw[<- h]; simp
        have A := Qq.1 this;obtain⟨p, _, rfl⟩ := A;rfl) (λu u' h => ⟨_, h.1⟩)
    (λt u => ∃ k, t = ((Dn N).take k).map Nq /\ k <= (Dn N).length /\ ∃ oa on oc, Bk u b4 [.slice oa on oc] 42 /\ AD w.heap.size 5 u (.slice oa on oc) (((Dn N).take k).map SC) /\ AC w u) (λ_ _ => False)
    ?_ ?_ ?_ ?_ ?_ (λc u h => h.1) (λw' e => by have := Bd.fr e id; exact this) ⟨0, rfl, by omega, none, 0, 0, C4, AD.nil _ _ _, stp⟩ ?_ ?_ ?_
  · rintro t u u' ⟨k, o, C, oa, on, oc, l, f, h5⟩ q; exact⟨k, o, C, oa, on, oc, l.qt q, f.qt q, h5.qt (q.mono T)⟩
  · rintro _ u u' h; exact h.elim
  · rintro t u u' _ ⟨k, o, C, oa, on, oc, l, f, h5⟩ ⟨q, x, I⟩
    exact⟨k, o, C, oa, on, oc, l.fr q (by omega), f.frc q I, ⟨Fr.st h5.e q λi hi => by omega⟩⟩
  · rintro _ u u' _ h; exact h.elim
  · rintro u c u2 u3 q1 ⟨_, r⟩ q2 x B; exact(r x (B.qt q1)).qt q2
  · rintro t x u ⟨rest, U⟩ _ ⟨k, o, C, oa, on, oc, l, f, h5⟩
    have E : k < (Dn N).length := by
      have A := QH k (Dn N).length;rcases A with h|h
      · exact h
      · exfalso
        have := congrArg List.length U;rw[o]at this;simp at this; omega
    have V : x = Nq (Dn N)[k] := by
      have J : t.length = k := by simp_all
      have W : (((Dn N).map Nq))[k]? = some x := by rw[<- U, <- J, Xk (Qe _)]; simp
      rw[QK, Qd E]at W;exact(QL W).symm
    have K := Cs E;have L := zM7 N _ (Qa E);have A : ∃ p, p = (Dn N)[k] := ⟨_, rfl⟩;obtain⟨⟨d, m⟩, M⟩ := A;rw[<- M]at V K L;subst V;refine⟨Fr.refl _ _, λu1 q => ?_⟩;have l := l.qt q; have f := f.qt q; have h5 := h5.qt (q.mono T);have X : (((Dn N).take k).map SC).length <= 5 := by rw[Qr, Qm]; omega
    have O : t ++ [Nq (d, m)] = ((Dn N).take (k + 1)).map Nq := by rw[o, K]; simp
    have Q : ((Dn N).take k).map SC ++ [SC (d, m)] = ((Dn N).take (k + 1)).map SC := by rw[K]; simp
    cases m
    case' false =>
      refine Cx (B := l) rfl (HR (z := ((SC (d, false)).toNat : Int)) (cV (x := d) (by omega)) (bS (SC (d, false)) λb6 F Y _ Z => ?_))
    case' true =>
      refine IV (y := ((d + 128 : Nat) : Int)) (by omega) (by omega) (Cx (B := l) rfl (HR (z := ((SC (d, true)).toNat : Int)) (cV (x := d + 128) (by omega)) (bS (SC (d, true)) λb6 F Y _ Z => ?_)))
    all_goals
      refine Ax (u := w) ⟨rfl, rfl⟩ (f.up (w' := F)) Z (by omega) λv7 w7 R f7 s7 => ?_;have r1 := (l.mv (w := F)).fro (f.up (w' := F)) f7;rw[Q]at R;have q7 := R.shape;obtain⟨a7, c7, rfl⟩ := q7;refine DI (B := r1) (vs := [.slice a7 _ c7]) rfl rfl rfl (by simp; rfl) λw8 B8 G _ => ?_;have s8 : AC w w8 := ⟨Fr.st Le.e G λi hi => by omega⟩;refine⟨⟨k + 1, O, E, a7, _, c7, B8, R.frc G r1, s8⟩, ⟨λi => w.heap.size <= i, ((Fr.fr Y.e).trans s7.e).trans (G.mono λi _ hi => by omega)⟩, λx I => ?_⟩;have k1 := (I.mv (w := F)).fro (f.up (w' := F)) f7;exact k1.fr G (by omega)
  · rintro t D u hE ⟨k, o, C, oa, on, oc, l, f, h5⟩ hD hd
    have E : k = (Dn N).length := by
      have := congrArg List.length (o.symm.trans hE);simp at this; omega
    subst E;rw[Qj (Qe _), uY]at f;refine Cx (B := l) rfl (RV f.sl ?_);refine Fg hd λu' q => ?_;exact⟨ok.symm, h5.qt (q _ (by omega))⟩
  · rintro c D u h; exact h.elim
end Go.W
namespace Go.Proofs
open Go.Shelf Tryz
def Tryz.bld_ren:Go.Shelf.Ren:=⟨fun|166=>14|240=>34|276=>64|169=>16|n=>n,fun|0=>0|3=>3|4=>4|5=>5|9=>9|20=>20|37=>42|70=>41|72=>44|75=>48|80=>52|127=>66|164=>108|n=>n,fun|n=>n⟩
theorem Tryz.bldW:Go.Proofs.Lays.n166 prog Tryz.bld_ren:={
 mixed:=by kernel_rfl
 f166:=W.ff func14
 f240:=W.ff func34
 f276:=W.ff func64
 t0:=underlying0
 a0:=isAgg0
 z0:=sizeOf0
 v0:=zeroValue0
 t3:=underlying3
 a3:=isAgg3
 z3:=sizeOf3
 v3:=zeroValue3
 t4:=underlying4
 a4:=isAgg4
 z4:=sizeOf4
 v4:=zeroValue4
 t9:=underlying9
 a9:=isAgg9
 z9:=sizeOf9
 v9:=zeroValue9
 t20:=underlying20
 a20:=isAgg20
 z20:=sizeOf20
 v20:=zeroValue20
 t37:=underlying42
 a37:=isAgg42
 z37:=sizeOf42
 v37:=zeroValue42
 t70:=underlying41
 a70:=isAgg41
 z70:=sizeOf41
 v70:=zeroValue41
 t72:=underlying44
 a72:=isAgg44
 z72:=sizeOf44
 v72:=zeroValue44
 t75:=underlying48
 a75:=isAgg48
 z75:=sizeOf48
 v75:=zeroValue48
 t164:=underlying108
 a164:=isAgg108
 z164:=sizeOf108
 v164:=zeroValue108 }
theorem Tryz.bldS:Go.Proofs.Lays.n169 prog Tryz.bld_ren:={
 mixed:=by kernel_rfl
 f169:=W.ff func16
 t0:=underlying0
 a0:=isAgg0
 z0:=sizeOf0
 v0:=zeroValue0
 t3:=underlying3
 a3:=isAgg3
 z3:=sizeOf3
 v3:=zeroValue3
 t9:=underlying9
 a9:=isAgg9
 z9:=sizeOf9
 v9:=zeroValue9
 t37:=underlying42
 a37:=isAgg42
 z37:=sizeOf42
 v37:=zeroValue42
 t70:=underlying41
 a70:=isAgg41
 z70:=sizeOf41
 v70:=zeroValue41
 t72:=underlying44
 a72:=isAgg44
 z72:=sizeOf44
 v72:=zeroValue44
 t127:=underlying66
 a127:=isAgg66
 z127:=sizeOf66
 v127:=zeroValue66 }
theorem Tryz.bldX:Builder.Extra prog Tryz.bld_ren:={
 sizeBuilder:=by kernel_rfl
 liesBuilder:=by kernel_rfl
 t5:=underlying5
 a5:=isAgg5
 z5:=sizeOf5
 v5:=zeroValue5
 infoByte:=by kernel_rfl
 cellsByte:=by kernel_rfl
 sizeByte:=by kernel_rfl
 neB5:=by decide }
end Go.Proofs
namespace Go.W
open Go Go.Proofs
open AK (enc)
set_option maxRecDepth 10000
variable {B N i j k m n n2 n3:Nat} {P:Program} {a a2 a3:OA} {g:An} {ps:List Int} {q:FX} {s:U8} {u u' w w' w1 w2:World}
theorem Bh.frB{α:Type}[AK α]{e T:TypeId}{b:Nat}{es:List TypeId}{v:Value}{l:List α}(h:Bh e w v l)(f:Cm (λi=>i=b) B es w w')(hb:∃c z,w.heap[b]? = some (.cells c T z))(o:T≠e)(p:e∉es):Bh e w' v l:=
 h.fr f (by
  rintro g cs z x d (rfl|r)
  ·obtain⟨c,y,t⟩:=hb;rw[t]at d;cases d;exact o rfl
  ·exact p (r.cells d))
abbrev Fc (B b:Nat) (l:U8) (w:World):Prop:=GP 44 5 B b l w
abbrev GJ (B b:Nat) (w w':World):Prop:=Cm (λi=>i=b) B [5] w w'
theorem Uj{b:Nat}{l m:U8}(h:Fc B b l w)(d:B<=w.heap.size)(c:l.length+m.length<=140737488355328):
  Sp PP 14 #[.pointer (some ⟨b,0,none⟩),Ag m] w λv w'=>v=.tuple #[.int .i64 m.length,.nilIface]/\Fc B b (l++m) w'/\GJ B b w w':=
 zNH (f:=14) Tryz.bldW Tryz.bldX rfl rfl rfl (AB.can (f:=14) inferInstance) h d c
theorem XT{b:Nat}{l:U8}(h:Fc B b l w)(c:B<=w.heap.size):
  Sp PP 16 #[.pointer (some ⟨b,0,none⟩)] w λv w'=>v=Ag l/\Fc B b l w'/\GJ B b w w':=
 yD (f:=16) Tryz.bldS Tryz.bldX rfl rfl rfl (AB.can (f:=16) inferInstance) h c
theorem zJ1{n:Int}:Sp PP 101 #[.int .i64 n] w λv w'=>(∃e:Int,v=.tuple #[Ag (if 0<=n/\n<=2147483647 then AL n.toNat else[]),.int .i64 e])/\AC w w':=
 rQ.mono λ_ _ b=>⟨by
  rw[b.1];unfold Rt;split
  ·exact⟨0,rfl⟩
  ·exact⟨1,rfl⟩,b.2⟩
theorem Uy{b:Nat}{bs:U8}{c:Nat}{l:List Int}(hb:Fc B b bs w)(h:Bh 3 w (.slice a n c) l)(z:B<=w.heap.size)(H:l.length<=1000000)(I:bs.length<=1000000000):
  Sp PP 166 #[.pointer (some ⟨b,0,none⟩),.slice a n c] w λv w'=>v=.tuple #[]/\Fc B b (bs++BW l) w'/\GJ B b w w':=by
 have o:=h.len;obtain rfl:=o;refine eN ?_;refine cN 11 [4,5,6,7] 10 l.length (λk u=>Fc B b (bs++BW (l.take k)) u/\GJ B b w u) ⟨by simpa[BW]using hb,Cm.refl _ _ _ _⟩ ?_;rintro k g u J ⟨p,f⟩;refine ite (λAY=>?_) (λA=>?_)
 ·have d:k<l.length:=by omega
  have r:=zNn d;have C:=T8 (l.take (k+1));rw[Qm,r,Qb]at C;have D:=h.frB f hb.obj (by decide) (by decide);refine Bv D.sl (x:=l[k]) (by simp) λK L E=>AF (E.cell0 rfl) (AA (zJ1 (n:=l[k])) ?_);rintro _ F ⟨⟨M,rfl⟩,t⟩;refine AA (Uj (p.up (w':=F)) (Qw z (Qw f.size t.e.size)) (by rw[Qb];omega)) ?_;rintro _ O ⟨rfl,y,G⟩;rw[Qp,<-r]at y;refine rA ⟨rfl,d,y,(f.trans (Cm.ext t.e)).trans G⟩
 ·have o:k=l.length:=by omega
  obtain rfl:=o;rw[Qj (Qe _)]at p;exact⟨rfl,p,f⟩
theorem Bh.of_new{α:Type}[AK α]{e:TypeId}{b:Nat}{cs:Array Value}{xs:List α}(h:AQ w' (.slice (some ⟨b,0,none⟩) n n) xs)(N:Lk w w' b cs e):Bh e w' (.slice (some ⟨b,0,none⟩) n n) xs:=⟨h,.inr ⟨b,_,_,rfl,N.blk⟩⟩
theorem lT{x:CG}{l:List AG}(h:AQ w (.slice x.a.s.a x.a.s.n x.a.s.c) l)(hn:l.length<=1000000):
  Sp PP 110 #[agg x] w λv w'=>((BG x l/\v=.tuple #[Ag (DM x l),.int .i64 0])\/(¬BG x l/\v=.tuple #[Ag [],.int .i64 1]))/\AC w w':=by
 obtain⟨id,f,M,o,D,sn,E⟩:=x;have r:sn=l.length:=h.len;refine eN ?_;refine BM λb1 w1 n1 O=>rG O (⟨id,f,M,o,D,sn,E⟩:CG) (AA (iO (x:=⟨id,f,M,o,D,sn,E⟩) (h.up (w':=w1)) hn) ?_);rintro v w2 ⟨⟨rfl,p⟩|⟨rfl,p⟩,e2⟩
 case' inr=>exact⟨.inr ⟨p,rfl⟩,stp⟩
 have z2:=lz w w2;refine Ap λS w3 n3 B3=>?_;have a7:=n1.b;have a8:=n1.s;have a9:=n3.b;have b0:=n3.s;have b2:=lz w1 w2;have T:w.heap.size<=S:=by omega
 have L0:Fc w.heap.size S [] w3:=dI T B3;clear B3;refine rX O rfl (rX O rfl (LE (α:=Int) [id,f] rfl (vs:=[.int .i64 id,.int .i64 f]) rfl rfl (by decide) λb5 Q n5 S5=>?_));have s5:AC w3 Q:=⟨n5.ext⟩;have z5:=lz w Q;refine AA (Uy (L0.up (w':=Q)) (Bh.of_new S5 n5) z5 (by simp) (by simp)) ?_;rintro _ w6 ⟨rfl,U,f6⟩;rw[Je]at U;have s6:AC w w6:=⟨Cm.st Le.e f6 (Qe _) λi hi=>by omega⟩;have z6:=s6.e.size;have z:=(O.mv (w:=Q)).keptX f6 (by omega) (by decide);refine rX z rfl ?_;have q1:=T8 [id,f];simp only[QA,QZ]at q1;refine ite (λR=>?_) (λR=>?_)
 ·have hv:Value.tuple #[Ag (BW [id,f]),.int .i64 0]=.tuple #[Ag (DM ⟨id,f,M,o,D,sn,E⟩ l),.int .i64 0]:=by
   unfold DM;rw[if_pos R,QE]
  refine AA (XT U z6) ?_;rintro _ w7 ⟨rfl,L7,f7⟩;exact⟨.inl ⟨p,hv⟩,⟨Cm.st s6.e f7 (Qe _) λi hi=>by omega⟩⟩
 refine rX z rfl ?_;cases M
 case' false =>
  refine rX z rfl (rX z rfl (LE (α:=Int) [0,o,(sn:Int)] rfl (vs:=[.int .i64 0,.int .i64 o,.int .i64 (sn:Int)]) rfl rfl (by decide) λb8 F V S8=>?_));have q2:=T8 [0,o,(sn:Int)]
  have t:BW [id,f]++BW [0,o,(sn:Int)]++Aq l=DM ⟨id,f,false,o,D,sn,E⟩ l:=by
   unfold DM;rw[if_neg R,r,Qp];rfl
 case' true =>
  refine rX z rfl (rX z rfl (LE (α:=Int) [1,o,(sn:Int)] rfl (vs:=[.int .i64 1,.int .i64 o,.int .i64 (sn:Int)]) rfl rfl (by decide) λb8 F V S8=>?_));have q2:=T8 [1,o,(sn:Int)]
  have t:BW [id,f]++BW [1,o,(sn:Int)]++Aq l=DM ⟨id,f,true,o,D,sn,E⟩ l:=by
   unfold DM;rw[if_neg R,r,Qp];rfl
 all_goals
  have s8:AC w6 F:=⟨V.ext⟩;have z8:=lz w F;simp only[QA,QZ]at q2;refine AA (Uy (U.up (w':=F)) (Bh.of_new S8 V) z8 (by simp) (by omega)) ?_;rintro _ w9 ⟨rfl,L9,f9⟩;have s9:AC w w9:=⟨Cm.st Le.e f9 (Qe _) λi hi=>by omega⟩;have z9:=s9.e.size;have C9:=(z.mv (w:=F)).keptX f9 (by omega) (by decide);refine rX C9 rfl (cN 39 [7] 38 l.length (λk u=>Fc w.heap.size S (BW [id,f]++BW _++Aq (l.take k)) u/\AC w u) ⟨by simpa[Aq]using L9,s9⟩ ?_);rintro k g u hk ⟨W,eu⟩;refine ite (λAY=>?_) (λX=>?_)
  ·have G:k<l.length:=by simp_all
   have Y:∃y,l[k]? = some y:=⟨_,Qd G⟩;obtain⟨y,hy⟩:=Y;refine Bv (h.up (w':=u)) (x:=y) hy λb7 o7 A7=>Ai A7 rfl (Ap λZ b3 a0 H=>rE H y λA I J _=>?_);have b4:AC u A:=a0.st J;have BH:Bk A Z [.int .i64 y.v,.int .i64 y.d] 142:=I;clear I H J;refine rX BH rfl (rX BH rfl (LE (α:=Int) [y.v,y.d] rfl (vs:=[.int .i64 y.v,.int .i64 y.d]) rfl rfl (by decide) λb6 C K a1=>?_));have b9:AC A C:=⟨K.ext⟩;have q3:=T8 [y.v,y.d];have q4:=rJ (l.take k);simp only[QA,QZ,Qm]at q3 q4;refine AA (Uy (W.up (w':=C)) (Bh.of_new a1 K) (lz w C) (by simp) (by rw[Qb,Qb];omega)) ?_;rintro _ c0 ⟨rfl,L,a4⟩;rw[Qp,<-zNh hy]at L;refine rA ⟨rfl,G,L,⟨Cm.st Le.e a4 (Qe _) λi hi=>by omega⟩⟩
  ·have a6:¬(k:Int)<(sn:Int):=X;have Y:k=l.length:=by omega
   obtain rfl:=Y;rw[Qj (Qe _),t]at W;refine AA (XT W eu.e.size) ?_;rintro _ c1 ⟨rfl,c2,a5⟩;exact⟨.inl ⟨p,rfl⟩,⟨Cm.st eu.e a5 (Qe _) λi hi=>by omega⟩⟩
theorem bI{p r:U8}:FP (p++r) p.length n↔n<=2147483647/\∃t,r=AL n++t:=by
 unfold FP;rw[V0]
abbrev GH (w:World) (b:Nat) (p r:U8):Prop:=Bk w b [Ag (p++r),.int .i64 (p.length:Nat)] 363
theorem GH.next{b:Nat}{p r t:U8}(e:r=AL n++t)(h:Bk w b [Ag (p++r),.int .i64 ((p.length+(AL n).length:Nat):Int)] 363):GH w b (p++AL n) t:=by
 unfold GH;rw[Qb,Qp,<-e];exact h
theorem YA{p r:U8}{b:Nat}(B:GH w b p r)(A:p.length+r.length<=4611686018427387904):
  El PP 182 #[.pointer (some ⟨b,0,none⟩)] w (λv w'=>∃(n:Nat) (t:U8),n<=2147483647/\r=AL n++t/\v=.int .i64 (n:Int)/\GH w' b (p++AL n) t/\Fr (λi=>i=b) w w')
   (λc w'=>c=DA/\(∀(n:Nat) (t:U8),n<=2147483647->r≠AL n++t)/\Fr (λi=>i=b) w w'):=
 (kX B (by simp_all)).mono
  (λv w' ⟨n,l,o,x,e⟩=>by
   have y:=bI.1 l;obtain⟨f,t,d⟩:=y;exact⟨n,t,f,d,o,GH.next d x,e⟩)
  (λc w' ⟨z,h,e⟩=>⟨z,λn t f d=>h n (bI.2 ⟨f,t,d⟩),e⟩)
theorem eO{p r:U8}{b:Nat}(B:GH w b p r)(C:p.length+r.length<=4611686018427387904)(D:m<=2147483647):
  El PP 183 #[.pointer (some ⟨b,0,none⟩),.int .i64 (m:Int)] w (λv w'=>∃(n:Nat) (t:U8),n<=m/\r=AL n++t/\v=.int .i64 (n:Int)/\GH w' b (p++AL n) t/\Fr (λi=>i=b) w w')
   (λc w'=>c=DA/\(∀(n:Nat) (t:U8),n<=m->r≠AL n++t)/\Fr (λi=>i=b) w w'):=
 (zR B (by simp_all)).mono
  (λv w' ⟨n,l,o,x,y,e⟩=>by
   have z:=bI.1 l;obtain⟨h,t,d⟩:=z;exact⟨n,t,o,d,x,GH.next d y,e⟩)
  (λc w' ⟨A,f,e⟩=>⟨A,λn t h d=>f n (bI.2 ⟨by omega,t,d⟩) h,e⟩)
theorem UT{a:Int}{r:List Int}(h:0<=a/\a<=2147483647):BW (a::r)=AL a.toNat++BW r:=by simp[BW,h]
theorem iV:BW []=[]:=rfl
def Gf (x:CG) (l:List AG):U8:=if x.code≠0 then[] else AL (if x.a.found then 1 else 0)++(AL x.a.num.toNat++(AL l.length++Aq l))
theorem Tr{x:CG}{l:List AG}(h:BG x l):DM x l=AL x.id.toNat++(AL x.code.toNat++Gf x l):=by
 unfold DM Gf;have b:=h.1;have c:=h.2.1;have d:=h.2.2.1;have e:=h.2.2.2.1;rw[UT b,UT ⟨c.1,by omega⟩,iV,QE];split
 ·simp
 ·rw[UT (by split<;>omega),UT ⟨d.1,by omega⟩,UT (by omega),iV];have:(if x.a.found=true then(1:Int) else 0).toNat=if x.a.found=true then 1 else 0:=by split<;>rfl
  rw[this];simp
theorem Xu{y:AG}{r:List AG}(h:Ey y):Aq (y::r)=AL y.v.toNat++(AL y.d.toNat++Aq r):=by
 obtain⟨b,c,e,f⟩:=h;have:Aq (y::r)=BW [y.v,y.d]++Aq r:=by simp[Aq]
 rw[this,UT (by omega),UT (by omega),iV];simp
theorem BG.congr{x y:CG}{l:List AG}(h:BG x l)(b:x.id=y.id)(c:x.code=y.code)(d:x.a.found=y.a.found)(e:x.a.num=y.a.num):BG y l:=by simp_all[BG]
def Kn (s:U8) (k:CG->List AG->U8->Prop):Prop:=∀x l t,BG x l->s=DM x l++t->k x l t
theorem kn1{r:U8}(e:s=AL n++r):Kn s λx l t=>x.id.toNat=n/\r=AL x.code.toNat++(Gf x l++t):=by
 intro x l t b c;rw[Tr b,Qp,Qp,e]at c;exact⟨(Hw c).1.symm,(Hw c).2⟩
theorem kn2{r d:U8}(h:Kn s λx l t=>x.id.toNat=n/\r=AL x.code.toNat++(Gf x l++t))(e:r=AL m++d):Kn s λx l t=>x.id.toNat=n/\x.code.toNat=m/\d=Gf x l++t:=by
 intro x l t b f;have o:=h x l t b f;obtain⟨p,c⟩:=o;rw[e]at c;exact⟨p,(Hw c).1.symm,(Hw c).2⟩
theorem kn3{r:U8}(h:Kn s λx l t=>x.id.toNat=n/\x.code.toNat=0/\r=Gf x l++t):Kn s λx l t=>x.id.toNat=n/\x.code.toNat=0/\r=AL (if x.a.found then 1 else 0)++(AL x.a.num.toNat++(AL l.length++(Aq l++t))):=by
 intro x l t b c;have d:=h x l t b c;obtain⟨e,f,o⟩:=d;refine⟨e,f,?_⟩;have:x.code=0:=by have:=b.2.1.1;omega
 rw[o];unfold Gf;rw[if_neg (by simp[this])];simp
theorem kn4{r d:U8}(h:Kn s λx l t=>x.id.toNat=n/\x.code.toNat=0/\r=AL (if x.a.found then 1 else 0)++(AL x.a.num.toNat++(AL l.length++(Aq l++t))))(e:r=AL m++d):
  Kn s λx l t=>x.id.toNat=n/\x.code.toNat=0/\(if x.a.found then 1 else 0)=m/\d=AL x.a.num.toNat++(AL l.length++(Aq l++t)):=by
 intro x l t b f;have o:=h x l t b f;obtain⟨p,v,c⟩:=o;rw[e]at c;exact⟨p,v,(Hw c).1.symm,(Hw c).2⟩
theorem kn5{r d:U8}{f:Nat}(h:Kn s λx l t=>x.id.toNat=n/\x.code.toNat=0/\(if x.a.found then 1 else 0)=f/\r=AL x.a.num.toNat++(AL l.length++(Aq l++t)))(e:r=AL m++d):
  Kn s λx l t=>x.id.toNat=n/\x.code.toNat=0/\(if x.a.found then 1 else 0)=f/\x.a.num.toNat=m/\d=AL l.length++(Aq l++t):=by
 intro x l t b o;have p:=h x l t b o;obtain⟨v,y,z,c⟩:=p;rw[e]at c;exact⟨v,y,z,(Hw c).1.symm,(Hw c).2⟩
abbrev Zo (s:U8) (n f m N k:Nat) (hs:List AG) (r:U8):Prop:=
 Kn s λx l t=>x.id.toNat=n/\x.code.toNat=0/\(if x.a.found then 1 else 0)=f/\x.a.num.toNat=m/\l.length=N/\l.take k=hs/\r=Aq (l.drop k)++t
theorem kn6{r c:U8}{f:Nat}(h:Kn s λx l t=>x.id.toNat=n/\x.code.toNat=0/\(if x.a.found then 1 else 0)=f/\x.a.num.toNat=m/\r=AL l.length++(Aq l++t))(e:r=AL N++c):Zo s n f m N 0 [] c:=by
 intro x l t b d;have o:=h x l t b d;obtain⟨p,v,y,z,h5⟩:=o;rw[e]at h5;exact⟨p,v,y,z,(Hw h5).1.symm,rfl,(Hw h5).2⟩
theorem jW{r:U8}{f:Nat}{e:List AG}(h:Zo s n f m N k e r)(G:k<N):
  Kn s λx l t=>x.id.toNat=n/\x.code.toNat=0/\(if x.a.found then 1 else 0)=f/\x.a.num.toNat=m/\l.length=N/\l.take k=e/\∃y,l[k]? = some y/\Ey y/\r=AL y.v.toNat++(AL y.d.toNat++(Aq (l.drop (k+1))++t)):=by
 intro x l t c o;have p:=h x l t c o;obtain⟨z,A,C,D,h5,E,F⟩:=p;have b:k<l.length:=by omega
 refine⟨z,A,C,D,h5,E,l[k],Qd b,c.2.2.2.2.2.2.2 _ (Qa b),?_⟩;rw[F,JS b,Xu (c.2.2.2.2.2.2.2 _ (Qa b))];simp
theorem kA{r o p:U8}{f v d:Nat}{z:List AG}(h:Zo s n f m N k z r)(D:k<N)(E:r=AL v++o)(F:o=AL d++p):Zo s n f m N (k+1) (z++[⟨v,d⟩]) p:=by
 intro x l t c G;have b:=jW h D x l t c G;obtain⟨H,I,J,K,h5,L,y,U,M,A⟩:=b;rw[E]at A;have b:=Hw A;obtain⟨O,C⟩:=b;rw[F]at C;have b:=Hw C;obtain⟨Q,R⟩:=b;refine⟨H,I,J,K,h5,?_,R⟩;have e:k<l.length:=by omega
 rw[Cs e,L];have:l[k]=y:=by simp_all
 rw[this];congr 1;obtain⟨S,_,T,_⟩:=M;congr 1;cases y;congr 1<;>simp only at S T O Q ⊢<;>omega
theorem zL(a b:Int)(c:Bool)(d:Int)(e:OA)(n m:Nat):∀u∈[Value.int .i64 a,.int .i64 b,.bool c,.int .i64 d,.slice e n m],u.oneCell'=true:=by
 intro u f;simp at f;rcases f with rfl|rfl|rfl|rfl|rfl<;>rfl
theorem lC(e:OA)(n m:Nat):∀u∈[Value.slice e n m],u.oneCell'=true:=by intro u b;simp at b;subst b;rfl
abbrev WB (s:U8) (b B:Nat) (w:World) (v:Value) (w':World):Prop:=
 ∃x l t,BG x l/\s=DM x l++t/\v=agg x/\GH w' b (DM x l) t/\AD B 142 w' (.slice x.a.s.a x.a.s.n x.a.s.c) l/\Fr (λi=>i=b) w w'
abbrev Rl (s:U8) (b:Nat) (w:World) (c:List PanicEntry) (w':World):Prop:=c=DA/\(∀x l t,BG x l->s≠DM x l++t)/\Fr (λi=>i=b) w w'
theorem zFj{b:Nat}(B:GH w b [] s)(hs:s.length<=1000000):
  El PP 181 #[.pointer (some ⟨b,0,none⟩)] w (WB s b w.heap.size w) (Rl s b w):=by
 have hb:b<w.heap.size:=Bk.lt B;refine HB Aa rfl ?_;refine Ap λb2 w1 n1 z1=>?_;have g9:=n1.b;have h0:=n1.s;have B1:GH w1 b [] s:=B.mv;refine AO (YA B1 (by simp;omega)) ?_ ?_
 case' refine_2 =>
  rintro _ u ⟨rfl,p,f⟩;refine⟨rfl,λx l t c E=>?_,(fE w w1).trans f⟩;rw[Tr c,Qp]at E;exact p _ _ (by have:=c.1;omega) E
 rintro _ w2 ⟨A,r1,h1,e0,rfl,B2,f2⟩;have K1:=kn1 e0;have F2:Fr (λi=>i=b) w w2:=(fE w w1).trans f2;have Z2:=z1.fr f2 (by omega);refine AJ (cs:=[.int .i64 (A:Int),.int .i64 0,.bool false,.int .i64 0,.slice none 0 0]) rfl (Ap λb3 w3 n3 z3=>?_);have h2:=n3.b;have h3:=n3.s;refine rS z3 [.int .i64 (A:Int),.int .i64 0,.bool false,.int .i64 0,.slice none 0 0] (zL _ _ _ _ _ _ _) λw4 B4 f4 _=>?_;have s4:AC w2 w4:=⟨Fr.st Le.e f4 λi hi=>by omega⟩;have h4:=lz w2 w4;have h5:=F2.size;have T:∀i,i=b3->w.heap.size<=i:=by omega
 have c9:∀i,i=b2->w.heap.size<=i:=by omega
 have J:¬b=b3:=by omega
 have c1:¬b3=b:=by omega
 have a0:¬b2=b3:=by have:=f2.size;omega
 have R4:GH w4 b ([]++AL A) r1:=B2.mv;have Z4:=Z2.mv (w:=w4);have d6:(([]:U8)++AL A).length+r1.length=s.length:=by rw[e0];simp
 refine AO (eO (m:=1000) R4 (by omega) (by decide)) ?_ ?_
 case' refine_2 =>
  rintro _ u ⟨rfl,p,f⟩;refine⟨rfl,λx l t c E=>?_,(F2.trans (fE w2 w4)).trans f⟩;have:=c.2.1;exact p _ _ (by omega) (K1 x l t c E).2
 rintro _ w5 ⟨D,r2,h6,e1,rfl,B5,f5⟩;have K2:=kn2 K1 e1;have C5:=B4.fr f5 (by omega);have F5:=(F2.trans (fE w2 w4)).trans f5;refine rS C5 [.int .i64 (D:Int)] (HT _) λw6 C6 f6 _=>?_;have F6:Fr (λi=>i=b) w w6:=Fr.new F5 f6 T;have B6:=Bk.fr B5 f6 J;have Z6:=(Z4.fr f5 (by omega)).fr f6 (by omega);refine rX C6 rfl (ite (λ(hc:(D:Int)=0)=>?_) (λ(hc:¬(D:Int)=0)=>?_))
 case' refine_2 =>
  refine rG C6 (⟨A,D,false,0,none,0,0⟩:CG) (AA (iO (x:=⟨A,D,false,0,none,0,0⟩) (l:=[]) (AQ.nil _) (by simp)) ?_);rintro v w7 ⟨⟨rfl,c⟩|⟨rfl,c⟩,e7⟩
  ·refine AO MC ?_ ?_
   case' refine_2 =>
    rintro _ u ⟨h,_⟩;cases h
   rintro _ w8 ⟨_,rfl,rfl⟩;have Z:=C6.mv (w:=w8);have Z8:=Z6.mv (w:=w8);refine rG Z (⟨A,D,false,0,none,0,0⟩:CG) (rE Z8 (⟨A,D,false,0,none,0,0⟩:CG) λw9 Z9 f9 _=>AR rfl ?_)
   have E:DM ⟨A,D,false,0,none,0,0⟩ []=[]++AL A++AL D:=by
    rw[Tr c];unfold Gf;rw[if_pos hc];simp
   refine⟨⟨A,D,false,0,none,0,0⟩,[],r2,c,by rw[E,e0,e1];simp,rfl,?_,AD.nil _ _ _,Fr.new (F6.trans (fE w6 w8)) f9 c9⟩;rw[E];exact(Bk.mv B6 (w:=w8)).fr f9 (by omega)
  ·refine AO MC ?_ ?_
   ·rintro _ u ⟨h,_⟩;cases h
   rintro _ u ⟨_,rfl,rfl⟩;refine⟨rfl,λx l t U E=>c ?_,F6.trans (fE w6 u)⟩;have⟨V,W,_⟩:=K2 x l t U E;have q1:=U.1;have q2:=U.2.1;have q3:=U.2.2.2.2.1 (by omega);rw[q3.2.2]at U;exact U.congr (by show x.id=(A:Int);omega) (by show x.code=(D:Int);omega) q3.1 q3.2.1
 have d0:D=0:=by omega
 subst d0;have K3:=kn3 K2;have d7:([]++AL A++AL 0).length+r2.length=s.length:=by rw[e0,e1];simp;omega
 refine AO (eO (m:=1) B6 (by omega) (by decide)) ?_ ?_
 case' refine_2 =>
  rintro _ u ⟨rfl,p,f⟩;refine⟨rfl,λx l t c E=>?_,F6.trans f⟩;exact p _ _ (by split<;>omega) (K3 x l t c E).2.2
 rintro _ w7 ⟨n2,r3,h7,e2,rfl,B7,G⟩;have K4:=kn4 K3 e2;have C7:=C6.fr G (by omega);have Z7:=Z6.fr G (by omega);have F7:=F6.trans G;refine ite (λ(hf:(n2:Int)=1)=>?pp) (λ(hf:¬(n2:Int)=1)=>?qq)
 case' pp =>
  obtain⟨K,c2,a1⟩:∃K:Bool,K=true/\((if K then 1 else 0)=n2):=⟨true,rfl,by simp;omega⟩;refine rS C7 [.bool true] (NX _) λw8 Z F _=>?_;rw[<-c2]at Z;have Z:Bk w8 b3 [.int .i64 (A:Int),.int .i64 0,.bool K,.int .i64 0,.slice none 0 0] 173:=Z
 case' qq =>
  obtain⟨K,c2,a1⟩:∃K:Bool,K=false/\((if K then 1 else 0)=n2):=⟨false,rfl,by simp;omega⟩;refine rS C7 [.bool false] (NX _) λw8 Z F _=>?_;rw[<-c2]at Z;have Z:Bk w8 b3 [.int .i64 (A:Int),.int .i64 0,.bool K,.int .i64 0,.slice none 0 0] 173:=Z
 all_goals
  have F8:Fr (λi=>i=b) w w8:=Fr.new F7 F T;have B8:=Bk.fr B7 F J;have Z8:=Z7.fr F (by omega);have d8:([]++AL A++AL 0++AL n2).length+r3.length=s.length:=by rw[e0,e1,e2];simp;omega
  refine AO (YA B8 (by omega)) ?_ ?_
  case' refine_2 =>
   rintro _ u ⟨rfl,p,f⟩;refine⟨rfl,λx l t c E=>?_,F8.trans f⟩;exact p _ _ (by have:=c.2.2.1;omega) (K4 x l t c E).2.2.2
  rintro _ w9 ⟨C,r4,h8,e3,rfl,B9,f9⟩;have K5:=kn5 K4 e3;have C9:=Z.fr f9 (by omega);have Z9:=Z8.fr f9 (by omega);refine rS C9 [.int .i64 (C:Int)] (HT _) λd1 c3 c4 _=>?_;have c3:Bk d1 b3 [.int .i64 (A:Int),.int .i64 0,.bool K,.int .i64 (C:Int),.slice none 0 0] 173:=c3;have d2:Fr (λi=>i=b) w d1:=Fr.new (F8.trans f9) c4 T;have d9:=Bk.fr B9 c4 J;have e5:=Z9.fr c4 (by omega);have e8:([]++AL A++AL 0++AL n2++AL C).length+r4.length=s.length:=by rw[e0,e1,e2,e3];simp;omega
  refine AO (eO (m:=100) d9 (by omega) (by decide)) ?_ ?_
  case' refine_2 =>
   rintro _ u ⟨rfl,p,f⟩;refine⟨rfl,λx l t c E=>?_,d2.trans f⟩;exact p _ _ (by have:=c.2.2.2.1;omega) (K5 x l t c E).2.2.2.2
  rintro _ h9 ⟨N,r5,hN,e4,rfl,d3,c5⟩;have K6:=kn6 K5 e4;have e9:=c3.fr c5 (by omega);have f0:=e5.fr c5 (by omega);have f1:=d2.trans c5;have⟨pre,c0⟩:∃pre,pre=[]++AL A++AL 0++AL n2++AL C++AL N:=⟨_,rfl⟩;have f3:s=pre++r5:=by simp_all
  rw[<-c0]at d3;clear K1 K2 K3 K4 K5 e0 e1 e2 e3 e4 d6 d7 d8 e8
  refine cN 26 [4] 25 N (λk u=>∃(hs:List AG) (r:U8) (oa:OA) (oc:Nat),hs.length=k/\GH u b (pre++Aq hs) r/\Bk u b3 [.int .i64 (A:Int),.int .i64 0,.bool K,.int .i64 (C:Int),.slice oa hs.length oc] 173 /\
    Bk u b2 [.int .i64 0,.int .i64 0,.bool false,.int .i64 0,.slice none 0 0] 173/\AD w.heap.size 142 u (.slice oa hs.length oc) hs/\Fr (λi=>i=b) w u/\s=(pre++Aq hs)++r/\Zo s A n2 C N k hs r)
   ⟨[],r5,none,0,rfl,by simpa[Aq]using d3,e9,f0,AD.nil _ _ _,f1,by simpa[Aq]using f3,K6⟩ ?_
  rintro k g u hk ⟨d,r,oa,oc,b7,Bu,Cu,Zu,Ou,Fu,X,Ku⟩;have zu:=Fu.size;refine ite (λAY=>?_) (λi0=>?_)
  ·have L:k<N:=by omega
   have i1:(pre++Aq d).length+r.length=s.length:=by rw[X];simp;omega
   refine AO (YA Bu (by omega)) ?_ ?_
   case' refine_2 =>
    rintro _ u' ⟨rfl,p,f⟩;refine⟨rfl,λx l t c E=>?_,Fu.trans f⟩;have⟨_,_,_,_,_,_,y,_,hy,hr⟩:=jW Ku L x l t c E;exact p _ _ (by have:=hy.2.1;have:=hy.1;omega) hr
   rintro _ u1 ⟨H,rv,i2,M,rfl,f7,b8⟩;have f8:=Cu.fr b8 (by omega);have g0:=Zu.fr b8 (by omega);have ob:∀g:Nat,w.heap.size<=g->Value.blk (.slice oa d.length oc)=some g->¬g=b:=λg hg _=>by omega
   have g1:=Ou.fr b8 ob;have g2:=Fu.trans b8;have g8:(pre++Aq d++AL H).length+rv.length=s.length:=by rw[X,M];simp;omega
   have d4:∀(w':World),(∀(n:Nat) (t:U8),n<=2147483647->rv≠AL n++t)->Fr (λi=>i=b) w w'->Rl s b w DA w':=λw' p f=>by
    refine⟨rfl,λx l t c E=>?_,f⟩;have⟨_,_,_,_,_,_,y,_,hy,hr⟩:=jW Ku L x l t c E;rw[M]at hr;exact p _ _ (by have:=hy.2.2.2;have:=hy.2.2.1;omega) (Hw hr).2
   refine dT (λi=>i=b\/i=b3\/AV w.heap.size (.slice oa d.length oc) i) (oL [0,1,3,4] (.duo 2 (oL [5,6,7,8,9,10,11] .nil) 5 (.one 6 (.duo 2 (oL [7,8,9,10,11] .nil) 7 (.lone 2 (oL [8,9,10,11] .nil)))))) λY es=>?_;have d5:=Bk.mv f7 (w:=Y);have a4:=f8.mv (w:=Y);have c6:=g0.mv (w:=Y);have c8:=g1.up (w':=Y);have O:=g2.trans (fE u1 Y);refine⟨?_,?_⟩
   ·refine rX a4 rfl ⟨Fr.refl _ _,?_⟩;refine AO (YA d5 (by omega)) ?_ λ_ u' ⟨hc,p,f⟩=>by subst hc;exact Mq rfl rfl (d4 u' p (O.trans f))
    rintro _ u3 ⟨I,rd,g7,ed,rfl,b9,o⟩;refine⟨o.mono λi _ hi=>.inl hi,?_⟩;refine As (cs:=[.int .i64 (H:Int),.int .i64 (I:Int)]) rfl (HS (α:=AG) ⟨H,I⟩ rfl rfl (by decide) λb6 S e6 _ S6=>⟨e6.e.fr,?_⟩);have Q:=a4.fr o (by omega);have a5:=c8.fr o ob;have a6:=c6.fr o (by omega);have a8:=Q.mv (w:=S);have z:=a5.up (w':=S);refine FR (B:=w.heap.size) ⟨rfl,rfl⟩ z S6 (by have:=O.size;have:=o.size;have:=e6.e.size;omega) (by simp;omega) λv7 u5 O7 G=>⟨G.mono λi _ hi=>.inr (.inr hi),?_⟩;have R:=a8.fro z G;have a9:=(a6.mv (w:=S)).fro z G;have b0:=(Bk.mv b9 (w:=S)).fro z G;have q7:=O7.shape;obtain⟨a7,c7,rfl⟩:=q7;refine rS R [.slice a7 _ c7] (lC _ _ _) λu6 b1 F _=>⟨F.mono λi _ hi=>.inr (.inl hi),?_⟩;have b4:Fr (λi=>i=b) w u5:=Fr.new ((O.trans o).trans (Fr.fr e6.e)) G λi hi=>hi.1;refine rA ⟨rfl,L,d++[(⟨(H:Int),(I:Int)⟩:AG)],rd,a7,c7,by simp[b7],?_,b1,a9.fr F a0,O7.frc F R,Fr.new b4 F T,?_,kA Ku L M ed⟩
    ·have b5:=b0.fr F J
     have:pre++Aq (d++[(⟨(H:Int),(I:Int)⟩:AG)])=pre++Aq d++AL H++AL I:=by
      have V:(H:Int)<=2147483647:=by omega
      have W:(I:Int)<=2147483647:=by omega
      simp[Aq,BW,V,W]
     unfold GH;rw[this];exact b5
    ·have V:(H:Int)<=2147483647:=by omega
     have W:(I:Int)<=2147483647:=by omega
     rw[X,M,ed];simp[Aq,BW,V,W]
   ·skip
    refine AO (YA d5 (by omega)) ?_ λ_ u' ⟨hc,p,f⟩=>by subst hc;exact Mq rfl rfl (d4 u' p (O.trans f))
    rintro _ u3 ⟨I,rd,g7,ed,rfl,b9,o⟩;refine⟨o.mono λi _ hi=>.inl hi,?_⟩;refine As (cs:=[.int .i64 (H:Int),.int .i64 (I:Int)]) rfl ?_;have Q:=a4.fr o c1;refine⟨?_,?_⟩
    ·refine rX Q rfl ⟨Fr.refl _ _,?_⟩;refine HS (α:=AG) ⟨H,I⟩ rfl rfl (by decide) λb6 S e6 _ S6=>⟨e6.e.fr,?_⟩;have Q:=a4.fr o (by omega);have a5:=c8.fr o ob;have a6:=c6.fr o (by omega);have a8:=Q.mv (w:=S);have z:=a5.up (w':=S);refine FR (B:=w.heap.size) ⟨rfl,rfl⟩ z S6 (by have:=O.size;have:=o.size;have:=e6.e.size;omega) (by simp;omega) λv7 u5 O7 G=>⟨G.mono λi _ hi=>.inr (.inr hi),?_⟩;have R:=a8.fro z G;have a9:=(a6.mv (w:=S)).fro z G;have b0:=(Bk.mv b9 (w:=S)).fro z G;have q7:=O7.shape;obtain⟨a7,c7,rfl⟩:=q7;refine rS R [.slice a7 _ c7] (lC _ _ _) λu6 b1 F _=>⟨F.mono λi _ hi=>.inr (.inl hi),?_⟩;have b4:Fr (λi=>i=b) w u5:=Fr.new ((O.trans o).trans (Fr.fr e6.e)) G λi hi=>hi.1;refine rA ⟨rfl,L,d++[(⟨(H:Int),(I:Int)⟩:AG)],rd,a7,c7,by simp[b7],?_,b1,a9.fr F a0,O7.frc F R,Fr.new b4 F T,?_,kA Ku L M ed⟩
     ·have b5:=b0.fr F J
      have:pre++Aq (d++[(⟨(H:Int),(I:Int)⟩:AG)])=pre++Aq d++AL H++AL I:=by
       have V:(H:Int)<=2147483647:=by omega
       have W:(I:Int)<=2147483647:=by omega
       simp[Aq,BW,V,W]
      unfold GH;rw[this];exact b5
     ·have V:(H:Int)<=2147483647:=by omega
      have W:(I:Int)<=2147483647:=by omega
      rw[X,M,ed];simp[Aq,BW,V,W]
    ·skip
     refine HS (α:=AG) ⟨H,I⟩ rfl rfl (by decide) λb6 S e6 _ S6=>⟨e6.e.fr,?_⟩;refine rX Q rfl ⟨Fr.refl _ _,?_⟩;have Q:=a4.fr o (by omega);have a5:=c8.fr o ob;have a6:=c6.fr o (by omega);have a8:=Q.mv (w:=S);have z:=a5.up (w':=S);refine FR (B:=w.heap.size) ⟨rfl,rfl⟩ z S6 (by have:=O.size;have:=o.size;have:=e6.e.size;omega) (by simp;omega) λv7 u5 O7 G=>⟨G.mono λi _ hi=>.inr (.inr hi),?_⟩;have R:=a8.fro z G;have a9:=(a6.mv (w:=S)).fro z G;have b0:=(Bk.mv b9 (w:=S)).fro z G;have q7:=O7.shape;obtain⟨a7,c7,rfl⟩:=q7;refine rS R [.slice a7 _ c7] (lC _ _ _) λu6 b1 F _=>⟨F.mono λi _ hi=>.inr (.inl hi),?_⟩;have b4:Fr (λi=>i=b) w u5:=Fr.new ((O.trans o).trans (Fr.fr e6.e)) G λi hi=>hi.1;refine rA ⟨rfl,L,d++[(⟨(H:Int),(I:Int)⟩:AG)],rd,a7,c7,by simp[b7],?_,b1,a9.fr F a0,O7.frc F R,Fr.new b4 F T,?_,kA Ku L M ed⟩
     ·have b5:=b0.fr F J
      have:pre++Aq (d++[(⟨(H:Int),(I:Int)⟩:AG)])=pre++Aq d++AL H++AL I:=by
       have V:(H:Int)<=2147483647:=by omega
       have W:(I:Int)<=2147483647:=by omega
       simp[Aq,BW,V,W]
      unfold GH;rw[this];exact b5
     ·have V:(H:Int)<=2147483647:=by omega
      have W:(I:Int)<=2147483647:=by omega
      rw[X,M,ed];simp[Aq,BW,V,W]
  ·have q_:k=N:=by omega
   obtain rfl:=q_;refine rG Cu (⟨A,0,K,C,oa,d.length,oc⟩:CG) (AA (iO (x:=⟨A,0,K,C,oa,d.length,oc⟩) (l:=d) Ou.sl (by omega)) ?_);rintro v u1 ⟨⟨rfl,c⟩|⟨rfl,c⟩,i3⟩
   ·refine AO MC ?_ ?_
    case' refine_2 =>
     rintro _ u ⟨h,_⟩;cases h
    rintro _ Y ⟨_,rfl,rfl⟩;have Z:=Cu.mv (w:=Y);have Z8:=Zu.mv (w:=Y);refine rG Z (⟨A,0,K,C,oa,d.length,oc⟩:CG) (rE Z8 (⟨A,0,K,C,oa,d.length,oc⟩:CG) λu3 Z9 f9 _=>AR rfl ?_)
    have E:DM ⟨A,0,K,C,oa,d.length,oc⟩ d=pre++Aq d:=by
     rw[Tr c];unfold Gf;rw[if_neg (by simp),c0,b7];dsimp only;rw[a1];simp
    refine⟨⟨A,0,K,C,oa,d.length,oc⟩,d,r,c,by rw[E];exact X,rfl,?_,(Ou.up (w':=Y)).frc f9 Z8,Fr.new (Fu.trans (fE u Y)) f9 c9⟩;rw[E];exact(Bk.mv Bu (w:=Y)).fr f9 (by omega)
   ·refine AO MC ?_ ?_
    ·rintro _ u ⟨h,_⟩;cases h
    rintro _ Y ⟨_,rfl,rfl⟩;refine⟨rfl,λx l t U E=>c ?_,Fu.trans (fE u Y)⟩;have⟨V,W,g3,g4,g5,g6,_⟩:=Ku x l t U E;have q1:=U.1;have q2:=U.2.1;have q3:=U.2.2.1;rw[Qj (by omega)]at g6;rw[g6]at U;refine U.congr (by show x.id=(A:Int);omega) (by show x.code=0;omega) ?_ (by show x.a.num=(C:Int);omega);show x.a.found=K;rw[<-a1]at g3;generalize x.a.found=q at g3 ⊢;cases q<;>cases K<;>simp at g3 ⊢
abbrev Nh:CG:=⟨0,0,false,0,none,0,0⟩
theorem pN{bx be:Nat}:Lm PP 261 #[.pointer (some ⟨bx,0,none⟩),.pointer (some ⟨be,0,none⟩)] .returning w λu' w'=>u'=.returning/\w'=w:=by
 refine Lm.enter Aa rfl rfl rfl rfl rfl rfl rfl (λ_ _=>rfl) rfl rfl ?_;refine Sx ?_;exact⟨rfl,rfl,rfl⟩
theorem wU{bx be:Nat}{x:CG}{e:Int}(f:Bk w bx (enc x) 173)(l:Bk w be [.int .i64 e] 24)(b:¬be=bx):
  Lm PP 261 #[.pointer (some ⟨bx,0,none⟩),.pointer (some ⟨be,0,none⟩)] (.panicking DA) w λu' w'=>settle u'=.returning/\Bk w' bx (enc Nh) 173/\Bk w' be [.int .i64 220] 24/\Fr (λi=>i=bx\/i=be) w w':=by
 refine Lm.enter Aa rfl rfl rfl rfl rfl rfl rfl (λ_ _=>rfl) rfl rfl ?_;refine Tu (Ap λt w1 n1 o=>rG o Nh (rE (f.mv (w:=w1)) Nh λw2 p c _=>rS ((l.mv (w:=w1)).fr c b) [.int .i64 220] (HT _) λv r d _=>?_));exact⟨rfl,rfl,p.fr d (λh=>b h.symm),r,((fE w w1).trans (c.mono λi _ hi=>.inl hi)).trans (d.mono λi _ hi=>.inr hi)⟩
theorem zOS{x y:CG}{l m:List AG}{t:U8}(p:BG x l)(v:BG y m)(e:DM x l++s=DM y m++t):DM x l=DM y m/\s=t:=by
 have len:∀{a b:U8} {s t:U8},a++s=b++t->s=t->a=b:=λh D=>by simp_all
 suffices s=t from⟨len e this,this⟩
 rw[Tr p,Tr v]at e;simp only[Qp]at e;have c:=Hw e;obtain⟨_,e⟩:=c;have c:=Hw e;obtain⟨z,e⟩:=c;unfold Gf at e;have E:=p.2.1;have F:=v.2.1;by_cases A:x.code=0
 ·have d:y.code=0:=by omega
  simp only[A,d,ne_eq,not_true_eq_false,if_false,Qp]at e;have c:=Hw e;obtain⟨_,e⟩:=c;have c:=Hw e;obtain⟨_,e⟩:=c;have c:=Hw e;obtain⟨o,e⟩:=c
  have f:∀(l m:List AG),(∀h∈l,Ey h)->(∀h∈m,Ey h)->l.length=m.length->Aq l++s=Aq m++t->s=t:=by
   intro l
   induction l with
   |nil =>
    intro m _ _ h e
    cases m with
    |nil=>simpa[Aq]using e
    |cons y r=>simp at h
   |cons a r C =>
    intro m z o h e
    cases m with
    |nil=>simp at h
    |cons b q =>
     rw[Xu (z a Qs),Xu (o b Qs)]at e;simp only[Qp]at e;exact C q (λh f=>z h (QF _ f)) (λh f=>o h (QF _ f)) (by simpa using h) (Hw (Hw e).2).2
  exact f l m p.2.2.2.2.2.2.2 v.2.2.2.2.2.2.2 o e
 ·have d:¬y.code=0:=by omega
  rw[if_pos A,if_pos d]at e;simpa using e
abbrev NK (s:U8) (B:Nat) (v:Value) (w':World):Prop:=
 (∃x l,BG x l/\DM x l=s/\v=.tuple #[agg x,.int .i64 0]/\AD B 142 w' (.slice x.a.s.a x.a.s.n x.a.s.c) l)\/((∀x l,BG x l->DM x l≠s)/\v=.tuple #[agg Nh,.int .i64 220])
theorem zFm(hs:s.length<=1000000):Sp PP 180 #[Ag s,.func (.func 181) #[] #[]] w λv w'=>NK s w.heap.size v w'/\AC w w':=by
 refine eN ?_;refine Ap λbx w1 n1 z1=>Ap λbe w2 n2 z2=>?_;have a0:=n1.b;have a1:=n1.s;have a4:=n2.b;have a5:=n2.s;refine AJ (cs:=[Ag s,.int .i64 0]) rfl (BM λA H n3 Z=>?_);have a6:=n3.b;have R3:GH H A [] s:=Z;clear Z;have X3:Bk H bx (enc Nh) 173:=z1.mv;have E3:Bk H be [.int .i64 0] 24:=z2.mv;have a7:=lz w H;have d:¬be=bx:=by omega
 have pan:∀{G:Nat->Value} {u:World} {x:CG},Bk u bx (enc x) 173->Bk u be [.int .i64 0] 24->AC w u->(∀x l,BG x l->DM x l≠s)->ev G (.tmp 4)=.pointer (some ⟨bx,0,none⟩)->ev G (.tmp 5)=.pointer (some ⟨be,0,none⟩) ->
   Cb PP Tryz.f180.results.toList G [{ target:=.fn (.func 261) #[.pointer (some ⟨bx,0,none⟩),.pointer (some ⟨be,0,none⟩)],args:=#[] }] (.panicking DA) (λv w'=>NK s w.heap.size v w'/\AC w w') (λ_ _=>False) u:=by
  intro G u x X I e f g4 g5;refine T5 (by simp) ⟨(wU X I d).can,Sc (wU X I d).calls ?_⟩;intro en u' w' o
  cases en with
  |returned v =>
   obtain⟨h1,X',I,f'⟩:=o;show Cb PP _ _ [] (settle u') _ _ w';rw[h1];refine Cg ?_;show Ek PP [.cell 4 _,.cell 5 _] [] G _ w';simp only[Ek,g4,g5];refine AR (B:=X') rfl ?_;refine FJ (B:=I) rfl ?_;exact⟨.inr ⟨f,rfl⟩,⟨Fr.st e.e f' λi hi=>by omega⟩⟩
  |panicked c=>exact o
  |outgrown=>exact o
 have C:∀i,i=A->w.heap.size<=i:=by omega
 have D:∀i,i=bx->w.heap.size<=i:=by omega
 have p:¬bx=A:=by omega
 have E:¬be=A:=by omega
 refine AO (zFj (b:=A) R3 hs) ?_ ?_
 ·rintro _ M ⟨x,l,t,F,o,rfl,R4,O4,r⟩;have O:AC w M:=⟨Fr.st Le.e r C⟩;have X4:=X3.fr r p;have E4:=E3.fr r E;refine rE X4 x λw5 J K _=>?_;have J:Bk w5 bx (enc x) 173:=J;have s5:AC w w5:=⟨Fr.st O.e K D⟩;have E5:=E4.fr K d;have R5:=(Bk.fr R4 K (λh=>p h.symm));have O5:=O4.frc K X4;refine AO (uQ R5) ?_ ?_
  ·rintro _ z ⟨rfl,Q,e6⟩
   have ht:t=[]:=by
    rw[Qb]at Q;exact Qn (by omega)
   subst ht;rw[QE]at o;have R:=J.mv (w:=z);refine Cq (ds:=enc x) (B:=R) rfl (AK.len x) (rE R x λw7 S T _=>?_);have S:Bk w7 bx (enc x) 173:=S;have s7:AC w w7:=⟨Fr.st Le.e T D⟩;have E7:=(E5.mv (w:=z)).fr T d;have O7:=(O5.up (w':=z)).frc T R;refine rS E7 [.int .i64 0] (HT _) λU E8 V _=>?_;have X8:=S.fr V (λh=>d h.symm);have s8:AC w U:=⟨Fr.st s7.e V λi hi=>by omega⟩;have O8:=O7.frc V E7;refine T5 (by simp) ⟨(pN (bx:=bx) (be:=be) (w:=U)).can,Sc (pN (bx:=bx) (be:=be) (w:=U)).calls ?_⟩;intro en u' w' W
   cases en with
   |returned v =>
    obtain⟨rfl,rfl⟩:=W;refine Cg ?_;refine AR (B:=X8) rfl ?_;refine FJ (B:=E8) rfl ?_;exact⟨.inl ⟨x,l,F,o.symm,rfl,O8.older⟩,s8⟩
   |panicked c=>exact W
   |outgrown=>exact W
  ·rintro _ z ⟨rfl,Q,e6⟩
   exact pan (J.mv (w:=z)) (E5.mv (w:=z)) stp (λy m Y L=>Q (by
    rw[o]at L;rw[(zOS F Y (by rw[L,QE]:DM x l++t=DM y m++[])).2];simp)) rfl rfl
 ·rintro _ M ⟨rfl,f,r⟩;have O:AC w M:=⟨Fr.st Le.e r C⟩;exact pan (X3.fr r p) (E3.fr r E) O (λy m Y L=>f y m [] Y (by rw[L,QE])) rfl rfl
theorem zGk(r:s.length<=1000000):Sp PP 112 #[Ag s] w λv w'=>NK s w.heap.size v w'/\AC w w':=by
 refine eN ?_;refine Ap λbx w1 n1 f=>?_;have t:=n1.b;refine AA (zFm r) ?_;rintro v w2 ⟨⟨x,l,h,y,rfl,O⟩|⟨o,rfl⟩,z⟩
 ·refine rE (f.mv (w:=w2)) x λp c d _=>?_;have c:Bk p bx (enc x) 173:=c;refine AR (B:=c) rfl ?_;exact⟨.inl ⟨x,l,h,y,rfl,(O.frc d (f.mv (w:=w2))).older⟩,⟨Fr.st Le.e d λi hi=>by omega⟩⟩
 ·refine rE (f.mv (w:=w2)) Nh λp c d _=>?_;have c:Bk p bx (enc Nh) 173:=c;refine AR (B:=c) rfl ?_;exact⟨.inr ⟨o,rfl⟩,⟨Fr.st Le.e d λi hi=>by omega⟩⟩
open Go
structure Ko where
 id:Int
 code:Int
 found:Bool
 num:Int
 hits:List AG
deriving DecidableEq,Inhabited
def Ko.d (r:Ko):CG:=⟨r.id,r.code,r.found,r.num,none,0,0⟩
def To (r:Ko):Prop:=BG r.d r.hits
def So (r:Ko):U8:=DM r.d r.hits
theorem To.of{x:CG}{l:List AG}(h:BG x l):To ⟨x.id,x.code,x.a.found,x.a.num,l⟩:=h.congr rfl rfl rfl rfl
theorem nP:∀{l m:List AG} {s t:U8},(∀h∈l,Ey h)->(∀h∈m,Ey h)->l.length=m.length->Aq l++s=Aq m++t->l=m
 |[],[],_,_,_,_,_,_=>rfl
 |[],_::_,_,_,_,_,h,_=>by simp at h
 |_::_,[],_,_,_,_,h,_=>by simp at h
 |a::r,b::q,s,t,f,o,h,e=>by
  have p:=f a Qs;have hb:=o b Qs;rw[Xu p,Xu hb]at e;simp only[Qp]at e;have c:=Hw e;obtain⟨v,e⟩:=c;have c:=Hw e;obtain⟨x,e⟩:=c;have y:=nP (λh d=>f h (QF _ d)) (λh d=>o h (QF _ d)) (by simpa using h) e;rw[y];congr 1;obtain⟨z,_,A,_⟩:=p;obtain⟨C,_,D,_⟩:=hb;cases a;cases b;congr 1<;>simp only at z A C D v x ⊢<;>omega
theorem zOQ{r q:Ko}(c:To r)(f:To q)(e:So r=So q):r=q:=by
 unfold So at e;unfold To at c f;rw[Tr c,Tr f]at e;have b:=Hw e;obtain⟨K,e⟩:=b;have b:=Hw e;obtain⟨L,e⟩:=b;have M:=c.1;have a2:=c.2.1;have a3:=c.2.2.1;have O:=f.1;have Q:=f.2.1;have R:=f.2.2.1;have l:r.id=q.id:=by simp only[Ko.d]at M O K;omega
 have c2:r.code=q.code:=by simp only[Ko.d]at a2 Q L;omega
 by_cases E:r.code=0
 ·have A:q.code=0:=by omega
  have C:r.d.code=0:=E;have D:q.d.code=0:=A;unfold Gf at e;simp only[C,D,ne_eq,not_true_eq_false,if_false]at e;have b:=Hw e;obtain⟨S,e⟩:=b;have b:=Hw e;obtain⟨T,e⟩:=b;have b:=Hw e;obtain⟨U,e⟩:=b;have F:=nP (s:=[]) (t:=[]) c.2.2.2.2.2.2.2 f.2.2.2.2.2.2.2 U (by simpa using e)
  have G:r.found=q.found:=by
   have h:(if r.found then 1 else 0)=(if q.found then 1 else 0):=S;generalize r.found=x at h ⊢;generalize q.found=y at h ⊢;cases x<;>cases y<;>simp at h ⊢
  have H:r.num=q.num:=by simp only[Ko.d]at a3 R T;omega
  cases r;cases q;simp only at l c2 G H F;subst l c2 G H F;rfl
 ·have V:=c.2.2.2.2.1 E;have W:=f.2.2.2.2.1 (by show q.code≠0;omega);obtain⟨o,p,I⟩:=V;obtain⟨v,z,J⟩:=W;have o:r.found=false:=o;have p:r.num=0:=p;have v:q.found=false:=v;have z:q.num=0:=z;cases r;cases q;simp only at l c2 o p I v z J;subst l c2 o p I v z J;rfl
open Classical in
noncomputable def ZK (s:U8):Option Ko:=if h:∃r,To r/\So r=s then some h.choose else none
section
variable {g:An} {c:DN}
end
abbrev ZS (B b1 bw:Nat) (v:Value) (ne:Prop):Nat->Prop:=λi=>i<B\/i=b1\/i=bw\/(ne/\Value.blk v=some i)
structure NA (w0:World) (xq:RQ) (xr:CP) (L:List AN) (a:OA) (c b1 bw:Nat) (u:World):Prop where
 k0:Kp (λi=>i<w0.heap.size) w0 u
 b:Bk u b1 [.pointer (some ⟨bw,0,none⟩)] 342
 w:Bk u bw (enc xq++enc xr++[.slice a L.length c,.int .i64 0]) 345
 l:AQ u (.slice a L.length c) L
theorem NA.kp{w0:World}{xq:RQ}{f:CP}{L:List AN}{c d e:Nat}(h:NA w0 xq f L a c d e u)(k:Kp (ZS w0.heap.size d e (.slice a L.length c) (L≠[])) u u'):NA w0 xq f L a c d e u':=
 ⟨h.k0.trans ⟨λi o p r hb=>k.k i o p r (.inl hb)⟩,h.b.kp k (.inr (.inl rfl)),h.w.kp k (.inr (.inr (.inl rfl))),h.l.kp k λt b hb=>.inr (.inr (.inr ⟨t,hb⟩))⟩
theorem AQ.kp0{α:Type}[AK α]{w0:World}{v:Value}{l:List α}(h:AQ w0 v l)(k:Kp (λi=>i<w0.heap.size) w0 u):AQ u v l:=
 h.kp k λd b hb=>by obtain⟨g,c,e⟩:=h.lt d;rw[hb]at c;cases c;exact e
theorem IF.kp0{w0:World}{x:CP}{r:List BP}(h:IF w0 x g r)(k:Kp (λi=>i<w0.heap.size) w0 u):IF u x g r:=
 ⟨h.rev',h.off.kp0 k,h.to.kp0 k,h.rof.kp0 k,h.rev.kp0 k⟩
def W5 (g:An) (x:AN):Prop:=Dz x/\x.key.v<g.n
theorem zPQ{r:List BP}{w0:World}{xq:RQ}{G:CP}{L:List AN}{c H O:Nat}(hg:Bb g)(R:IF w0 G g r)(hk:xq.kind=q.kind/\xq.rad=q.rad)(hL:∀x∈L,W5 g x)(hn:L.length<=100000):
  Uh PP 326 [] [.pointer (some ⟨H,0,none⟩)] Bp (Kp (ZS w0.heap.size H O (.slice a L.length c) (L≠[]))) (NA w0 xq G L a c H O)
  (λd x u=>∃h:d.length<L.length,∃v,x=[agg L[d.length],v]/\AD 0 329 u v (CF g q L[d.length])) (λd=>d.length=L.length):=by
 refine⟨λy J Jx w hJ a0 hY h0 Q=>?_⟩;refine eN ?_;refine rX Q.b rfl (rX Q.w rfl (cN 13 [4,5,6,7] 13 L.length (λk u=>∃d,d.length=k/\J d u/\NA w0 xq G L a c H O u) ⟨[],rfl,h0,Q⟩ ?_));rintro k g' u a1 ⟨d,o,hj,D⟩;refine ite (λAY=>?_) (λa4=>?_)
 ·have p:k<L.length:=by omega
  have⟨t,S⟩:=hL _ (Qa p);refine Bv D.l (x:=L[k]) (by simp) λb4 o4 A4=>Ai A4 rfl (Ap λb5 u5 n5 z5=>?_);have a5:=n5.b;have a6:=n5.s;refine rE z5 (L[k]) λI K f6 _=>?_;have K:Bk I b5 (enc L[k]) 329:=K;have s6:AC u I:=⟨Fr.st (lE u u5) f6 λi hi=>by omega⟩;refine rG K (L[k].key) (rX K rfl ?_);refine AJ (cs:=enc L[k]) rfl (Ap λb7 u7 n7 z7=>?_);have a7:=n7.b;have a8:=n7.s;refine rE z7 (L[k]) λT M f8 _=>?_;have M:Bk T b7 (enc L[k]) 341:=M;have s8:AC I T:=⟨Fr.st (lE I u7) f8 λi hi=>by omega⟩;have z:=D.kp (.of_ext (lE u T));clear z5 f6 z7 f8;refine dQ 15 λu9 e9=>tX z.b rfl nf (tG z.w xq nf (tX z.b rfl nf (tG z.w G nf (tG M (L[k]) nf ?_))));have D9:=z.kp (.of_ext e9.e);refine AA (zK5 (q:=q) hg (R.kp0 D9.k0) hk t (by have:=t.1.2.2.1;exact this) S) ?_;rintro _ f ⟨⟨U,rfl,V⟩,W⟩;refine⟨W.e,?_⟩;refine iF (· rfl) (rG M (L[k]) ?_);have A:=hJ _ _ _ hj (lE u f);have X:=D9.kp (.of_ext (lE u9 f));have Y:d.length<L.length:=by omega
  have C:AD 0 329 f U (CF g q L[d.length]):=by have:=V.mono (XE _);simpa only[o]using this
  have Z:agg L[k]=agg L[d.length]:=by simp only[o]
  refine IR (vs:=[agg L[k],U]) rfl rfl rfl rfl (hY d f _ ⟨Y,U,by rw[Z],C⟩ A) ?_;rintro bb a9 ⟨⟨rfl,E⟩|⟨rfl,F⟩,hK⟩
  ·exact rA ⟨rfl,p,_,by simp[o],E,X.kp hK⟩
  ·exact .inr F
 ·exact .inl ⟨d,by omega,hj⟩
theorem zEM{c:Nat}:Sp PP 244 #[.pointer (some ⟨c,0,none⟩)] w λv w'=>(∃b,v=.func (.func 326) #[] #[.pointer (some ⟨b,0,none⟩)]/\Nx w w' b/\Bk w' b [.pointer (some ⟨c,0,none⟩)] 342):=by
 refine eN ?_;refine BM λb w1 n1 d=>?_;exact⟨b,rfl,n1,d⟩
theorem yH{x:AN}{b:Nat}{n:Int}(N:Bk w b [.int .i64 n] 3):Sp PP 235 #[agg x,.pointer (some ⟨b,0,none⟩)] w λv w'=>Ao (x.key.v≥n) v/\AC w w':=by
 refine eN ?_;refine BM λd w1 n1 c=>rX c rfl (rX N rfl ?_);exact ite (λh=>⟨.t h,stp⟩) (λh=>⟨.f h,stp⟩)
theorem zNp{α:Type}(f:α->Int)(l:List α)(W:Nat):(((List.range W).flatMap λp:Nat=>l.filter λx=>decide (f x=(p:Int)))).Perm (l.filter λx=>decide (0<=f x/\f x<W)):=by
 induction W with
 |zero =>
  have:(l.filter λx=>decide (0<=f x/\f x<((0:Nat):Int)))=[]:=JA.2 λx _=>by simp<;>omega
  rw[this];exact .refl _
 |succ W b =>
  rw[Jm,Jl];refine(b.append_right _).trans ?_;clear b;simp only[JV,XM,QE]
  induction l with
  |nil=>exact .refl _
  |cons x r b =>
   by_cases e:0<=f x/\f x<(W:Int)
   ·have d:¬f x=(W:Int):=by omega
    have c:0<=f x/\f x<((W+1:Nat):Int):=by omega
    rw[JL (by simpa using e),Jw (by simpa using d),JL (by simpa using c)];exact b.cons x
   ·by_cases d:f x=(W:Int)
    ·have c:0<=f x/\f x<((W+1:Nat):Int):=by omega
     rw[Jw (by simpa using e),JL (by simpa using d),JL (by simpa using c)];exact List.perm_middle.trans (b.cons x)
    ·have c:¬(0<=f x/\f x<((W+1:Nat):Int)):=by omega
     rw[Jw (by simpa using e),Jw (by simpa using d),Jw (by simpa using c)];exact b
def Ma (W:Nat) (v:Int):Value:=if 0<=v/\v<=1000000/\1<=W/\W<=16 then .tuple #[.int .i64 (Dt W v),.bool true] else .tuple #[.int .i64 0,.bool false]
theorem wP{W:Nat}(h:1<=W)(v:Int):∃p:Nat,Dt W v=p/\p<W:=by
 have b:=Vs ((v*40503+12345) % 65536) (show(W:Int)≠0 by omega);have c:=VT ((v*40503+12345) % 65536) (show(0:Int)<W by omega);exact⟨(Dt W v).toNat,by unfold Dt;omega,by unfold Dt;omega⟩
theorem iN{v:Int}{W:Nat}:Sp PP 250 #[.int .i64 v,.int .i64 (W:Int)] w λr w'=>r=Ma W v/\w'=w:=by
 have no:¬(0<=v/\v<=1000000/\1<=W/\W<=16)->Ma W v=.tuple #[.int .i64 0,.bool false]:=λh=>by unfold Ma;rw[if_neg h]
 refine eN ?_;refine ite (λh=>⟨(no (by omega)).symm,rfl⟩) (λb=>?_);refine ite (λh=>⟨(no (by omega)).symm,rfl⟩) (λc=>?_);refine ite (λh=>⟨(no (by omega)).symm,rfl⟩) (λd=>?_);refine ite (λh=>⟨(no (by omega)).symm,rfl⟩) (λf=>?_);have e:Ma W v=.tuple #[.int .i64 ((v*40503+12345) % 65536 % W),.bool true]:=by unfold Ma Dt;rw[if_pos (by omega)]
 rw[e];refine rA (rA (Kl (by omega) (by omega) (Kl (Vs _ (by decide)) (by omega) ?_)));exact⟨rfl,rfl⟩
structure PO where
 s:SV
 l:List AN
instance:AK PO:=⟨1,λx=>[.slice x.s.a x.s.n x.s.c],λ_=>rfl,by intro x u hu;simp at hu;subst hu;rfl,by decide⟩
instance:Inhabited PO:=⟨⟨⟨none,0,0⟩,[]⟩⟩
abbrev PO.v (x:PO):Value:=.slice x.s.a x.s.n x.s.c
theorem vP{v:Value}{l:List AN}(h:AQ w v l):∃x:PO,v=x.v/\x.l=l:=by
 have b:=h.shape;obtain⟨a,c,rfl⟩:=b;exact⟨⟨⟨a,l.length,c⟩,l⟩,rfl,rfl⟩
structure GR (B:Nat) (w:World) (v:Value) (M:List PO):Prop where
 top:AD B 255 w v M
 rows:∀x∈M,AD B 329 w x.v x.l
 apart:∀i j (hi:i<M.length) (hj:j<M.length),i≠j->∀g,Value.blk M[i].v=some g->Value.blk M[j].v≠some g
 lt:∀x∈M,∀g,Value.blk x.v=some g->g<w.heap.size
theorem GR.up[Le w w']{v:Value}{M:List PO}(R:GR B w v M):GR B w' v M:=
 ⟨R.top.up,λx b=>(R.rows x b).up,R.apart,λx b g c=>QJ (R.lt x b g c) (lz w w')⟩
theorem GR.put{v:Value}{M:List PO}{x:PO}(R:GR B w v M)(hi:i<M.length)(D:AD B 329 w1 x.v x.l)(C:Fr (AV B M[i].v) w w1)
  (hb:Value.blk x.v=Value.blk M[i].v\/Value.blk x.v=some w.heap.size)(o:∀g,Value.blk x.v=some g->g<w1.heap.size)(E:AD B 255 w2 v (M.set i x))(e:BQ B [255] w1 w2):GR B w2 v (M.set i x):=by
 have F:M[i]∈M:=Qa hi;refine⟨E,λy r=>?_,λp q d f t g c b=>?_,λy r g c=>?_⟩
 ·have z:=QI.1 r;obtain⟨p,d,rfl⟩:=z;rw[Jc]at d;rw[Xh];split
  ·exact D.kept e (by decide)
  ·rename_i A;have:=(R.rows _ (Qa d)).fr C λg _ c hd=>R.apart i p hi d A g hd.2.1 c;exact this.kept e (by decide)
 ·rw[Jc]at d f;rw[Xh]at c b;split at c
  ·rename_i G;rw[if_neg (by omega)]at b;rcases hb with h|h
   ·rw[h]at c;exact R.apart i q hi f (by omega) g c b
   ·rw[h]at c;cases c;exact absurd (R.lt _ (Qa f) _ b) (Yc _)
  ·split at b
   ·rcases hb with h|h
    ·rw[h]at b;exact R.apart i p hi d (by omega) g b c
    ·rw[h]at b;cases b;exact absurd (R.lt _ (Qa d) _ c) (Yc _)
   ·exact R.apart p q d f t g c b
 ·have z:=QI.1 r;obtain⟨p,d,rfl⟩:=z;rw[Jc]at d;rw[Xh]at c;split at c
  ·exact QJ (o g c) e.size
  ·exact QJ (R.lt _ (Qa d) g c) (Qw C.size e.size)
theorem GR.zero{v:Value}{K:Nat}(O:AD B 255 w v (List.replicate K (default:PO))):GR B w v (List.replicate K (default:PO)):=by
 refine⟨O,λx c=>?_,λi j hi d _ g b=>?_,λx c g b=>?_⟩
 ·rw[List.eq_of_mem_replicate c];exact AD.nil _ _ _
 ·rw[List.getElem_replicate]at b;cases b
 ·rw[List.eq_of_mem_replicate c]at b;cases b
def Ha (W:Nat) (l:List AN) (p:Nat):List AN:=l.filter λx=>decide (Dt W x.key.v=(p:Int))
theorem wV(W:Nat)(l:List AN)(p:Nat)(x:AN):Ha W (l++[x]) p=Ha W l p++if Dt W x.key.v=(p:Int) then[x] else[]:=by
 unfold Ha;rw[QV];congr 1;by_cases h:Dt W x.key.v=(p:Int)<;>simp[h]
theorem qP(W:Nat)(l:List AN)(p:Nat):(Ha W l p).length<=l.length:=Qv _ _
theorem yT{c:Nat}{l:List AN}{W:Nat}(h:AQ w (.slice a n c) l)(hn:l.length<=100000)(hW:1<=W/\W<=16)(hm:∀x∈l,Dz x):
  Sp PP 237 #[.slice a n c,.int .i64 (W:Int)] w λr w'=>(∃v M,r=.tuple #[v,.int .i64 0]/\GR w.heap.size w' v M/\M.length=W/\∀p (Y:p<M.length),M[p].l=Ha W l p)/\AC w w':=by
 have y:=h.len;obtain rfl:=y;refine eN ?_;refine AA (iN (v:=0) (W:=W)) ?_;rintro _ w1 ⟨rfl,rfl⟩;have e0:Ma W 0=.tuple #[.int .i64 (Dt W 0),.bool true]:=if_pos ⟨by omega,by omega,hW⟩;rw[e0];refine AA (jB (h.up (w':=w1)) (by omega)) ?_;rintro _ w2 ⟨⟨rfl,_⟩|⟨rfl,h2⟩,e2⟩
 case' inr=>exact absurd hm h2
 refine Id (default:PO) rfl rfl (by omega) λg w3 O3 s3 a8=>?_;have R3:=GR.zero O3;have z2:=e2.e.size
 refine cN 29 [4,5,10,11,12] 29 l.length (λi u=>(∃M,GR w2.heap.size u (.slice (some ⟨g,0,none⟩) W W) M/\M.length=W/\∀p (Y:p<M.length),M[p].l=Ha W (l.take i) p)/\AC w2 u)
  ⟨⟨_,R3,by simp,λp Y=>by rw[List.getElem_replicate];rfl⟩,stp⟩ ?_
 rintro i g2 u hi ⟨⟨M,R,hM,f⟩,e⟩;have a9:=lz w2 u;refine ite (λAY=>?_) (λb0=>?_)
 ·have z:i<l.length:=by omega
  refine Bv (h.up (w':=u)) (x:=l[i]) (by simp) λb4 o4 A4=>Ai A4 rfl (Ap λb5 u5 n5 z5=>?_);have a4:=n5.b;have b1:=n5.s;refine rE z5 (l[i]) λu6 Z f6 _=>?_;have Z:Bk u6 b5 (enc l[i]) 329:=Z;have s6:AC u u6:=⟨Fr.st (lE u u5) f6 λi hi=>by omega⟩;have F:=hm _ (Qa z);have y:=wP hW.1 l[i].key.v;obtain⟨p,Y,b2⟩:=y;refine rX Z rfl (AA (iN (v:=l[i].key.v) (W:=W)) ?_);rintro _ u7 ⟨rfl,rfl⟩
  have e7:Ma W l[i].key.v=.tuple #[.int .i64 (p:Int),.bool true]:=by
   rw[<-Y];exact if_pos ⟨F.1.2.2.2.1,by have:=F.1.2.2.2.2;omega,hW⟩
  rw[e7];have d:p<M.length:=by omega
  have R6:=R.up (w':=u7)
  have b3:M[p].l.length<=l.length:=by
   rw[f p d];have:=qP W (l.take i) p;rw[Qm]at this;omega
  have b6:=Z.lt;refine dT (λi=>i≠b5) (oL [0,1,2,3,4,6] (.duo 5 (oL [7,8,9,10] .nil) 7 (.lone 5 (oL [8,9,10] .nil)))) λw8 e8=>?_;have R8:=R6.up (w':=w8);refine ET rfl R8.top (x:=M[p]) (by simp) λg9 H _ A9=>tG Z (l[i]) (by simp) ?_;have b7:=lz u7 w8;have b8:=lz w2 w8;have b9:u.heap.size=b5:=a4.symm;have a0:∀g,Value.blk M[p].v=some g->g<u.heap.size:=R.lt _ (Qa d)
  have a1:g9≠b5:=by
   have q:=R.top.lt (by intro h0;rw[h0]at d;simp at d);obtain⟨g',G,_,h2⟩:=q;rw[H]at G;cases G;omega
  refine⟨?_,?_⟩
  ·refine AF (A9.cell0 rfl) ⟨Fr.refl _ _,?_⟩;refine HS l[i] rfl rfl (by decide) λa5 t I _ J=>⟨Fr.fr I.e,?_⟩;have o:=R8.up (w':=t)
   refine GB ⟨rfl,rfl⟩ (o.rows _ (Qa d)) J (by simp) (by have:=lz w2 t;omega) (by simp;omega) λv7 a6 D E K=>⟨E.mono λj a7 L=>by
    have:=a0 j L.2.1;omega,?_⟩
   have O:M[p].l++[l[i]]≠[]:=by simp
   have y:=D.lt O;obtain⟨g7,Q,_,A⟩:=y;have y:=vP D.sl;obtain⟨x,rfl,S⟩:=y;have T:=o.top.kept ((o.rows _ (Qa d)).wrote E (Qe _) (Qc.2 rfl)) (by decide);refine ET rfl T (x:=M[p]) (by simp) λg8 U _ _=>?_
   refine CZ rfl x T U d rfl λu8 O8 V _=>⟨V.mono λj _ L=>by
    have G:=L.2.1;rw[H]at G;cases G;exact a1,?_⟩
   have F8:=T.wrote V (Qe _) (Qc.2 (rfl:255=255));rw[<-S]at D;have X:=o.put d D E K (λg hg=>by rw[Q]at hg;cases hg;exact A) O8 F8;have s8:AC w2 u8:=⟨Fr.st (Fr.st (lE w2 t) E λi hi=>hi.1) V λi hi=>hi.1⟩;refine rA ⟨rfl,z,⟨_,X,by simp[hM],λq hq=>?_⟩,stp⟩;rw[Jc]at hq;rw[Cs z,wV,Y,Xh];split
   ·rename_i C;subst C;rw[if_pos rfl,S,f _ d]
   ·rename_i C;rw[if_neg (by omega),QE];exact f q hq
  ·refine HS l[i] rfl rfl (by decide) λa5 t I _ J=>⟨Fr.fr I.e,?_⟩;refine AF ((A9.up (w':=t)).cell0 rfl) ⟨Fr.refl _ _,?_⟩;have o:=R8.up (w':=t)
   refine GB ⟨rfl,rfl⟩ (o.rows _ (Qa d)) J (by simp) (by have:=lz w2 t;omega) (by simp;omega) λv7 a6 D E K=>⟨E.mono λj a7 L=>by
    have:=a0 j L.2.1;omega,?_⟩
   have O:M[p].l++[l[i]]≠[]:=by simp
   have y:=D.lt O;obtain⟨g7,Q,_,A⟩:=y;have y:=vP D.sl;obtain⟨x,rfl,S⟩:=y;have T:=o.top.kept ((o.rows _ (Qa d)).wrote E (Qe _) (Qc.2 rfl)) (by decide);refine ET rfl T (x:=M[p]) (by simp) λg8 U _ _=>?_
   refine CZ rfl x T U d rfl λu8 O8 V _=>⟨V.mono λj _ L=>by
    have G:=L.2.1;rw[H]at G;cases G;exact a1,?_⟩
   have F8:=T.wrote V (Qe _) (Qc.2 (rfl:255=255));rw[<-S]at D;have X:=o.put d D E K (λg hg=>by rw[Q]at hg;cases hg;exact A) O8 F8;have s8:AC w2 u8:=⟨Fr.st (Fr.st (lE w2 t) E λi hi=>hi.1) V λi hi=>hi.1⟩;refine rA ⟨rfl,z,⟨_,X,by simp[hM],λq hq=>?_⟩,stp⟩;rw[Jc]at hq;rw[Cs z,wV,Y,Xh];split
   ·rename_i C;subst C;rw[if_pos rfl,S,f _ d]
   ·rename_i C;rw[if_neg (by omega),QE];exact f q hq
 ·have y:i=l.length:=by omega
  obtain rfl:=y;rw[Qg]at f;exact⟨⟨_,M,rfl,⟨R.top.mono z2,λx S=>(R.rows x S).mono z2,R.apart,R.lt⟩,hM,f⟩,stp⟩
def jZ (m:Nat) (keep slots:List Nat) (c:Code):Bool:=PG m keep (4294967296::slots) c && nodupB (4294967296::slots) && !GS slots 4294967296
theorem xJ{keep slots:List Nat}{c:Code}(b:PG m keep slots c=true){F G:Nat->Value}(h:agree (wr c) F G):
  IH m keep (I7 slots (By G slots)) G F=G:=by
 funext t;unfold IH;rw[mO]
 cases e:GS slots t with
 |true=>rfl
 |false =>
  simp only[cond_false]
  cases f:(Nat.beq t 4294967296 || xor (Nat.blt t m) (GS keep t)) with
  |false=>rfl
  |true =>
   simp only[cond_true]
   cases d:wr c t with
   |false=>exact(h t d).symm
   |true =>
    have:=pP c b t d;simp only[Uv,e,Bool.false_or,f]at this;cases this
section
variable {P:Program} {T:Ce} {n:Nat}
theorem aG(V:T.ok P=true)(m:Nat)(keep slots:List Nat)(I:Value->List Value->World->Prop)(K:List Value->World->Nat){body:Code}{Q:KS}{F:Nat->Value}
  (v:jZ m keep slots body=true)(h0:I (F 4294967296) (By F slots) w)
  (W:∀d vs g w,vs.length=slots.length->I d vs w->S P T n body
   { Q with nrm:=λL w'=>I (L 4294967296) (By L slots) w'/\K (By L slots) w'<K vs w } (IH m keep ((4294967296,d)::I7 slots vs) g F) w):BI P T n (.loop body) Q F w:=by
 rw[SH];intro md M a X;simp only[jZ,Qz,VJ]at v
 have f:∀(A B:Nat->Value),(∀t,t≠4294967296->A t=B t)->By A slots=By B slots:=by
  intro A B O
  have:∀l:List Nat,GS l 4294967296=false->By A l=By B l:=by
   intro l
   induction l with
   |nil=>intro _;rfl
   |cons s r Y =>
    intro h;simp only[GS,QG]at h;simp only[By];rw[Y h.2,O s λe=>by subst e;simp at h]
  exact this slots v.2
 have C:∀(G:Nat->Value),agree (wr body) F G->IH m keep ((4294967296,G 4294967296)::I7 slots (By G slots)) G F=G:=λG J=>xJ (slots:=4294967296::slots) v.1.1 J;refine wpIn_loop (λz w'=>∃G,FI n G z/\agree (wr body) F G/\I (G 4294967296) (By G slots) w') (λz w'=>K (By (λt=>z.tmps.getD t undef) slots) w') ⟨F,X,λ_ _=>rfl,h0⟩ ?_;rintro z w' ⟨G,J,c,Z⟩
 have D:(By G slots).length=slots.length:=by
  have:∀l,(By G l).length=l.length:=by intro l;induction l<;>simp_all[By]
  exact this slots
 have hb:=W (G 4294967296) (By G slots) G w' D Z;rw[C G c]at hb;have R:By (λt=>z.tmps.getD t undef) slots=By G slots:=f _ _ J.get;refine Jb ?_ (Ti V body _ _ _ hb md M z J);intro e U a0 E;cases e<;>simp only[KS.lift,Exit.then]at E ⊢
 ·obtain⟨o,p,x,y,h4⟩:=E;have H:By (λt=>U.tmps.getD t undef) slots=By o slots:=f _ _ p.get;refine⟨⟨o,p,λt b=>by rw[x t b,c t b],y⟩,?_⟩;rw[R,H];exact h4
 ·obtain⟨o,p,x,y⟩:=E;exact⟨o,p,λt b=>by simp only[wr]at b;rw[x t b,c t b],y⟩
 ·obtain⟨o,p,x,y⟩:=E;exact⟨o,p,λt b=>by simp only[wr]at b;rw[x t b,c t b],y⟩
 ·obtain⟨o,p,x,y⟩:=E;exact⟨o,p,λt b=>by simp only[wr]at b;rw[x t b,c t b],y⟩
theorem aN(p:T.ok P=true)(m:Nat)(keep:List Nat)(c s:Nat)(N:Nat)(I:Nat->Value->KW){body:Code}{Q:KS}{F:Nat->Value}
  (e:jZ m keep [c,s] body=true)(r:F s=.int .i64 0)(h0:I 0 (F 4294967296) (F c) w)
  (t:∀(k:Nat) d b g w,k<=N->I k d b w->S P T n body { Q with nrm:=λf w'=>f s=.int .i64 ((k:Int)+1)/\k<N/\I (k+1) (f 4294967296) (f c) w' } (IH m keep [(4294967296,d),(c,b),(s,.int .i64 k)] g F) w):BI P T n (.loop body) Q F w:=by
 refine aG p m keep [c,s] (λd vs w=>match vs with|[b,v]=>∃k:Nat,k<=N/\v=.int .i64 k/\I k d b w|_=>False) (λvs _=>match vs with|[_,v]=>N - (Go.RowKit.intOf v).toNat|_=>0) e ⟨0,by omega,r,h0⟩ ?_;intro d vs g w A l
 match vs,l with
 |[b,v],l =>
  obtain⟨k,x,rfl,hi⟩:=l;refine IJ _ _ _ _ _ (t k d b g w x hi) ?_ (λ_ _ _ _ h=>h) (λ_ _ _ h=>h) (λ_ _ _ _ h=>h);intro G w' _ h;obtain⟨o,y,z⟩:=h;refine⟨⟨k+1,y,o,z⟩,?_⟩;show N - (Go.RowKit.intOf (G s)).toNat<N - _;rw[o];show N - ((k:Int)+1).toNat<N - ((k:Int)).toNat;omega
def pT (Ds:List Nat):List Deferred:=Ds.map λD=>{ target:=.collected D,args:=#[] }
structure LJ (B C:Nat) (d:Value) (u:World):Prop where
 ex:∃Ds,FH d=pT Ds/\Ds.Nodup/\∀D∈Ds,B<=D/\D<C/\u.heap[D]? = some (.deferred (some []))
theorem LJ.fr{E:Nat->Prop}{C:Nat}{d:Value}(h:LJ B C d u)(f:Fr E u u'):LJ B C d u':=by
 obtain⟨e,l,o,b⟩:=h;exact⟨e,l,o,λD c=>⟨(b D c).1,(b D c).2.1,f.nc _ _ (b D c).2.2 rfl⟩⟩
theorem LJ.qt{C:Nat}{d:Value}(h:LJ B C d u)(q:Qt C u u'):LJ B C d u':=by
 obtain⟨e,f,l,b⟩:=h;exact⟨e,f,l,λD c=>⟨(b D c).1,(b D c).2.1,q.block _ _ (b D c).2.2 (.inl (b D c).2.1)⟩⟩
theorem LJ.lt{C e:Nat}{d:Value}(h:LJ B C d u)(hC:C<=e):LJ B e d u:=by
 obtain⟨f,l,o,b⟩:=h;exact⟨f,l,o,λD c=>⟨(b D c).1,QJ (b D c).2.1 hC,(b D c).2.2⟩⟩
theorem LJ.nil(B C:Nat)(u:World){d:Value}(h:FH d=[]):LJ B C d u:=⟨[],h,.nil,λ_ h=>(by cases h)⟩
theorem LJ.add{C D:Nat}{d:Value}(h:LJ B C d u)(c:B<=D)(hC:C<=D)(hd:u.heap[D]? = some (.deferred (some []))):LJ B u.heap.size (HA (.pointer (some ⟨D,0,none⟩)) d) u:=by
 obtain⟨e,f,l,b⟩:=h;refine⟨D::e,by rw[cM _ _ _ rfl,f];rfl,JC.2 ⟨λo=>by have:=(b D o).2.1;omega,l⟩,λE hE=>?_⟩;rcases Ql.1 hE with rfl|hE
 ·exact⟨c,Ad hd,hd⟩
 ·exact⟨(b E hE).1,Ad (b E hE).2.2,(b E hE).2.2⟩
theorem Pw{f:List ResultVar}{F:Nat->Value}{R:KW}{l:PW}:∀(b:List Nat) (u:World),b.Nodup->(∀D∈b,B<=D/\u.heap[D]? = some (.deferred (some []))) ->
  (∀u',Qt B u u'->Ek P f [] F R u')->Cb P f F (pT b) .returning R l u
 |[],u,_,_,h=>Cg (h u (.of_ext (Fr.refl _ _)))
 |D::b,u,c,d,h=>by
  rw[JC]at c;have e:=d D Qs;have q:Qt B u (u.putObj D (.deferred none)):=Qt.put e.2 rfl e.1;refine sO (by intro h;cases h) e.2 (Pw b _ c.2 (λE hE=>⟨(d E (QF _ hE)).1,?_⟩) λu' o=>h u' (q.trans o));rw[Jk]
  ·exact(d E (QF _ hE)).2
  ·rintro rfl;exact c.1 hE
theorem zOm{b:List ResultVar}{F:Nat->Value}{R:KW}{e:PW}{C:Nat}{d:Value}(f:F 4294967296=d)(M:LJ B C d u)(h:∀u',Qt B u u'->Ek P b [] F R u'):Oy P b R e F u:=by
 obtain⟨l,o,p,c⟩:=M;unfold Oy;rw[f,o]
 cases l with
 |nil=>exact h u (.of_ext (Fr.refl _ _))
 |cons D r=>exact Pw (D::r) u p (λE hE=>⟨(c E hE).1,(c E hE).2.2⟩) h
end
theorem zIf{c:Nat}{l:List AN}(h:AQ w (.slice a n c) l)(H:l.length<=1000000):Sp PP 242 #[.slice a n c] w λv w'=>AD w.heap.size 341 w' v l/\AC w w'/\∀b,Value.blk v=some b->b<w'.heap.size:=by
 have C:=h.len;obtain rfl:=C;refine eN ?_;refine LC (λr=>?_) (λr=>?_)
 ·have D:l=[]:=by
   obtain⟨I,J,E,_,e⟩:=h;cases E;rcases e with e|⟨b,o,hb,_⟩
   ·exact e
   ·rw[r]at hb;cases hb
  subst D;exact⟨AD.nil _ _ _,stp,λb hb=>(by cases hb)⟩
 ·refine LE (α:=AN) [] rfl (vs:=[]) rfl rfl (by decide) λt w1 n1 _=>?_;have K:AC w w1:=⟨n1.ext⟩;have x:t<w1.heap.size:=Ad n1.blk;refine RP ⟨rfl,rfl⟩ (AD.nil' w.heap.size 341 _ _) (h.up (w':=w1)) n1.ext.size (by simp;omega) λF y z A f=>?_;rw[Je]at z;have L:Gl w w1 y:=Mu A
  have d:∀b,Value.blk F=some b->b<y.heap.size:=λb hb=>by
   have:=A.size;rcases f with p|⟨p,G⟩
   ·rw[p]at hb;cases hb;show t<_;omega
   ·rw[p]at hb;cases hb;exact G
  exact⟨z,stp,d⟩
theorem zPO{x:Int}{W:Nat}(h:x∈Gq W):∃p:Nat,x=(p:Int)/\p<W:=by
 unfold Gq at h;have b:=Qq.1 h;obtain⟨p,c,d⟩:=b;exact⟨p,d.symm,Q0.1 c⟩
theorem tO{X:List AN}{W:Nat}{b:List Int}(c:1<=W)(d:b.Perm (Gq W)):(b.flatMap λp=>Ha W X p.toNat).Perm X:=by
 have e:(b.flatMap λp=>Ha W X p.toNat).Perm ((Gq W).flatMap λp=>Ha W X p.toNat):=d.flatMap_right _;refine e.trans ?_
 have f:((Gq W).flatMap λp=>Ha W X p.toNat)=(List.range W).flatMap λp:Nat=>X.filter λx=>decide (Dt W x.key.v=(p:Int)):=by
  unfold Gq Ha;rw[XJ];rfl
 rw[f];refine(zNp (λx:AN=>Dt W x.key.v) X W).trans ?_
 have h:(X.filter λx=>decide (0<=Dt W x.key.v/\Dt W x.key.v<(W:Int)))=X:=JH.2 λx _=>by
  have l:=wP c x.key.v;obtain⟨p,o,r⟩:=l;simp only[decide_eq_true_eq];omega
 rw[h]
def Cz (g:An) (q:FX) (P:List AN):List AN:=P.flatMap (CF g q)
theorem qZ(b:Bb g)(q:FX)(x:AN):(CF g q x).length<=2000:=by
 unfold CF;split
 ·simp
 ·rw[Qr];exact Zc b _ _
theorem rC(b:Bb g)(q:FX)(P:List AN):(Cz g q P).length<=2000*P.length:=by
 induction P with
 |nil=>simp[Cz]
 |cons x r c =>
  have:=qZ b q x;unfold Cz at *;rw[JV,Qb,QA];omega
theorem yY(S M:List AN):(Ba S M).length<=M.length:=Qw (Qv _ _) (sI M)
theorem zOV{S M:List AN}(h:∀x∈M,W5 g x):∀x∈Ba S M,W5 g x:=λx b=>h x (gU.1 b).1.1
theorem zQO{S M P N:List AN}(r:CE S)(l:P.Perm (Ba S M))(t:N.Perm (S++P))(v:N.Pairwise λa b=>¬Bw b.key a.key):N=(Hv g q S M).1/\Ba N (Cz g q P)=(Hv g q S M).2:=by
 have c:∀x∈Ba S M,∀y∈S,y.key≠x.key:=λx z=>(gU.1 z).2;have o:CE (EJ (Ba S M) S):=pZ r (jA (vM S M)) c;have d:N.Perm (EJ (Ba S M) S):=t.trans ((l.append_left S).trans (bD _ _).symm);have e:N.Pairwise λa b=>a.key≠b.key:=(d.pairwise_iff λh=>Jq h).2 (jA o);have f:CE N:=(v.and e).imp λ⟨A,C⟩=>ZY (λD=>A D) (Jq C);have p:N=EJ (Ba S M) S:=f.uniq o λx=>d.mem_iff;refine⟨p,?_⟩;unfold Hv;simp only;rw[<-p];unfold Ba;rw[zM4 (show(Cz g q P).Perm ((Ba S M).flatMap (CF g q)) from l.flatMap_right _)];rfl
theorem Uq{L:List AN}{f:AN->List AN}:∀(b:List (List Value)) (x:List Value) (u:World),(∃h:b.length<L.length,∃v,x=[agg L[b.length],v]/\AD 0 329 u v (f L[b.length]))->x.length=2:=by
 rintro b x u ⟨_,v,rfl,_⟩;rfl
structure KP (g:An) (q:FX) (S P:List AN) (B bn bs:Nat) (u:World) (na nc:_) (sa sc:_):Prop where
 now:Bk u bn [.slice na (S++P).length nc] 233
 sent:Bk u bs [.slice sa (Cz g q P).length sc] 255
 on:AD B 341 u (.slice na (S++P).length nc) (S++P)
 os:AD B 329 u (.slice sa (Cz g q P).length sc) (Cz g q P)
theorem KP.up{S P:List AN}{b bs:Nat}{c d e f:_}[Le u u'](h:KP g q S P B b bs u c d e f):KP g q S P B b bs u' c d e f:=⟨h.now.mv,h.sent.mv,h.on.up,h.os.up⟩
theorem KP.qt{C:Nat}{S P:List AN}{b bs:Nat}{c d e f:_}(h:KP g q S P B b bs u c d e f)(k:Qt C u u'):KP g q S P B b bs u' c d e f:=⟨h.now.qt k,h.sent.qt k,h.on.qt k,h.os.qt k⟩
theorem oQ{r:List BP}{xq:RQ}{xr:CP}{S M:List AN}{W:Nat}{c c2 c3:Nat}(hg:Bb g)(R:IF w xr g r)(hk:xq.kind=q.kind/\xq.rad=q.rad)
  (h1:AQ w (.slice a n c) S)(U:AQ w (.slice a2 n2 c2) M)(h3:AQ w (.slice a3 n3 c3) ps)(hW:1<=W/\W<=16)(hS:CE S)(g7:∀x∈S,W5 g x)(b5:∀x∈M,W5 g x)(m5:S.length<=10000)(m6:M.length<=400):
  Sp PP 173 #[agg xq,agg xr,.slice a n c,.slice a2 n2 c2,.int .i64 (W:Int),.slice a3 n3 c3] w λv w'=>(∃v1 v2,v=.tuple #[v1,v2,.int .i64 0]/\AD w.heap.size 341 w' v1 (Hv g q S M).1/\AD w.heap.size 329 w' v2 (Hv g q S M).2)/\AC w w':=by
 have V:=h1.len;obtain rfl:=V;have V:=U.len;obtain rfl:=V;have V:=h3.len;obtain rfl:=V;obtain⟨ro,rt,rr,rv⟩:=xr;obtain⟨a0,g8,a1⟩:=ro;have d0:g8=g.n+1:=by have:=R.off.len;rw[Mk]at this;exact this
 subst d0;refine eN ?_;refine BM λbq w1 n1 Bq=>BM λbr w2 n2 Br=>rX Br rfl ?_;have m7:=hg.ok.n2;refine IV (y:=(g.n:Int)) (by show((g.n+1:Nat):Int) - 1=(g.n:Int);omega) (by omega) (Ap λbN w3 n3 Z3=>?_);have m8:=n1.b;have m9:=n1.s;have n0:=n2.b;have n5:=n2.s;have n6:=n3.b;have n7:=n3.s;refine rS Z3 [.int .i64 (g.n:Int)] (IZ _) λw4 N4 f4 _=>?_;have N4:Bk w4 bN [.int .i64 (g.n:Int)] 3:=N4;have s4:AC w w4:=⟨Fr.st (lE w w3) f4 λi hi=>by omega⟩;have Bq:=(Bq.mv (w:=w3)).fr f4 (by omega);have Br:=(Br.mv (w:=w3)).fr f4 (by omega);clear Z3 f4;refine rG Br (⟨⟨a0,g.n+1,a1⟩,rt,rr,rv⟩:CP) (AA (Tv hg (R.up (w':=w4))) ?_);rintro _ w5 ⟨rfl,e5⟩;refine AA (zJ0 (n:=W) (by omega) (h3.up (w':=w5))) ?_;rintro _ w6 ⟨⟨ol,ov,rfl,a6,Oo⟩,e6⟩;refine AA (rD (h1.up (w':=w6)) (U.up (w':=w6)) (by omega) (by omega)) ?_;rintro fv w7 ⟨Of,e7⟩;have d1:=zOV (S:=S) b5;have n8:=yY S M;have V:=Of.shape;obtain⟨fa,fc,rfl⟩:=V;refine AA (yT Of.sl (by omega) hW λx hx=>(d1 x hx).1) ?_;rintro _ w8 ⟨⟨bv,MB,rfl,RB,n9,d2⟩,e8⟩;have qb:=RB.top.shape;obtain⟨ba,bc,rfl⟩:=qb;refine iF (· rfl) (iF (· rfl) (rX N4 rfl (AA (zID (m:=(g.n:Int)) (h1.up (w':=w8)) (by omega) hS λx hx=>g7 x hx) ?_)));rintro _ w9 ⟨rfl,e9⟩;refine AA (jB (U.up (w':=w9)) (by omega)) ?_;rintro _ E ⟨⟨rfl,_⟩|⟨rfl,g9⟩,o0⟩
 case' inr=>exact absurd (λx hx=>(b5 x hx).1) g9
 refine AA (rY (g:=235) (first:=[]) (cap:=[.pointer (some ⟨bN,0,none⟩)]) (p:=λx=>x.key.v≥(g.n:Int)) (U.up (w':=E)) (by omega) λx u hx e=>yH ((N4.mv (w:=E)).fr e nf)) ?_;rintro _ o ⟨⟨rfl,d3⟩|⟨rfl,d3⟩,o3⟩
 case' inl=>exact absurd d3 (λ⟨y,hy,h⟩=>by have:=(b5 y hy).2;omega)
 refine AA (zIf (h1.up (w':=o)) (by omega)) ?_;rintro nv d4 ⟨On,h0,b7⟩;have V:=On.shape;obtain⟨a4,a5,rfl⟩:=V;refine Ap λbn h2 d5 d6=>?_;have l7:=d5.b;have l8:=d5.s;have o4:=h0.e.size;refine rS d6 [.slice a4 S.length a5] (Gs _ _ _) λd7 a8 d8 _=>?_;have a8:Bk d7 bn [.slice a4 S.length a5] 233:=a8;have h4:AC d4 d7:=⟨Fr.st (lE d4 h2) d8 λi hi=>by omega⟩;refine Ap λbs A d9 b0=>?_;have l9:=d9.b;have m0:=d9.s;have b0:Bk A bs [.slice none 0 0] 255:=b0;have b8:KP g q S [] o.heap.size bn bs A a4 a5 none 0:=⟨by simpa using a8.mv (w:=A),by simpa[Cz]using b0,by simpa using On.up (w':=A),by simpa[Cz]using AD.nil _ _ _⟩;clear d6 d8 a8 b0
 have e0:∀b,Value.blk (.slice a4 S.length a5)=some b->b<A.heap.size:=λb hb=>by
  have:=b7 b hb;omega
 have AY:bn<A.heap.size/\bs<A.heap.size:=⟨b8.now.lt,b8.sent.lt⟩;have o5:=h4.e.size;have o6:o.heap.size<=bn/\o.heap.size<=bs/\bn≠bs:=by omega
 have f0:=qX W;have f1:=a6.length_eq;rw[f0]at f1;have h8:=Oo.shape;obtain⟨oa,oc,rfl⟩:=h8;have h9:=R.up (w':=o);have i0:=h3.up (w':=o);have b4:=RB.up (w':=o);have f3:=Bq.mv (w:=o);have f5:=Br.mv (w:=o);have f6:=Oo.up (w':=o);have i1:w.heap.size<=o.heap.size:=Le.size;refine aN Aa 77 [24,25,26,27,28] 18 77 ol.length (λk d v u=>v=.int .i64 0/\LJ A.heap.size u.heap.size d u/\(∃P H O Q T,P.Perm ((ol.take k).flatMap λp=>Ha W (Ba S M) p.toNat)/\KP g q S P o.heap.size bn bs u H O Q T/\(∀b,Value.blk (.slice H (S++P).length O)=some b->b<u.heap.size)/\∀b,Value.blk (.slice Q (Cz g q P).length T)=some b->b<u.heap.size)/\AC o u/\A.heap.size<=u.heap.size) rfl rfl ⟨rfl,LJ.nil _ _ _ rfl,⟨[],a4,a5,none,0,.refl _,b8,λb hb=>by have:=e0 b (by simpa using hb);omega,λb hb=>(by cases hb)⟩,stp,Qe _⟩ ?_;rintro k d v G u o7 ⟨rfl,K,⟨P,H,O,Q,T,hP,I,g0,g1⟩,su,zu⟩
 have o8:P.length<=(Ba S M).length:=by
  have h1:=(hP.append_right ((ol.drop k).flatMap λp=>Ha W (Ba S M) p.toNat)).length_eq;rw[<-Jl,JW,(tO hW.1 a6).length_eq,Qb]at h1;omega
 refine ite (λm2=>?_) (λo9=>?_)
 ·have b9:k<ol.length:=by omega
  have i2:ol[k]∈Gq W:=a6.mem_iff.1 (Qa b9);have i3:=zPO i2;obtain⟨p,hp,p0⟩:=i3;have g2:p<MB.length:=by omega
  refine Bv (f6.up (w':=u)).sl (x:=ol[k]) (by simp) λb1 o1 A1=>?_;have i4:=A1.cell0 (v:=Value.int .i64 (p:Int)) (by rw[hp];rfl);refine AF i4 (dQ 11 λu1 e1=>tG f3 xq nf (tG f5 (⟨⟨a0,g.n+1,a1⟩,rt,rr,rv⟩:CP) nf ?_));have p1:=qP W (Ba S M) p;have b3:=d2 p g2;have SB:AQ u1 MB[p].v MB[p].l:=(b4.up (w':=u1)).rows _ (Qa g2) |>.sl;refine CL (i:=p) (b4.up (w':=u1)).top.sl (x:=MB[p]) (by simp) λb2 o2 A2 _=>AP (A2.cell0 rfl) nf (AA (zJZ SB (by rw[b3];omega) (i0.up (w':=u1))) ?_);rintro lv u2 ⟨⟨L,c0,OL⟩,e2⟩;refine⟨e2.e,?_⟩;have ql:=OL.shape;obtain⟨la,lc,rfl⟩:=ql;refine As (cs:=enc xq++enc (⟨⟨a0,g.n+1,a1⟩,rt,rr,rv⟩:CP)++[.slice la L.length lc,.int .i64 0]) rfl (BM λbw u3 c4 W3=>⟨c4.e,?_⟩);refine AA zEM ?_;rintro _ C ⟨Y,rfl,n4,B4⟩;have i5:=c0.length_eq;have p2:L.length<=400:=by rw[i5,b3];omega
  have i6:∀x∈L,W5 g x:=λx hx=>d1 x (QC.1 (b3 ▸ c0.mem_iff.1 hx)).1;have p3:=lz u u1;have p4:=lz u u2;have i7:=lz u C;have p5:=lz u2 C;have p6:=c4.b;have p7:=c4.s;have p8:=n4.b;have m3:=n4.s;have D4:NA o xq (⟨⟨a0,g.n+1,a1⟩,rt,rr,rv⟩:CP) L la lc Y bw C:=⟨.of_ext (lE o C),B4,W3.mv (w:=C),OL.sl.up⟩;have I4:=I.up (u':=C)
  have hX:∀i,ZS o.heap.size Y bw (.slice la L.length lc) (L≠[]) i->i<o.heap.size\/(u.heap.size<=i/\i<C.heap.size):=λi hi=>by
   rcases hi with h|h|h|⟨h,h'⟩
   ·exact .inl h
   ·right;omega
   ·right;omega
   ·have V:=OL.lt h;obtain⟨g',g3,p9,q0⟩:=V;rw[h']at g3;cases g3;right;omega
  have i8:KP g q S (P++L.take ([]:List (List Value)).length) o.heap.size bn bs C H O Q T:=by simpa using I4
  refine Nm Aa rfl (gf:=326) (first:=[]) (cap:=[.pointer (some ⟨Y,0,none⟩)]) (Rc:=λc u=>(∃D,Fr D c u)/\Kp (ZS o.heap.size Y bw (.slice la L.length lc) (L≠[])) c u) rfl rfl (zPQ hg h9 hk i6 (by omega)) Uq (λu u' h=>⟨_,h⟩)
   (λz x=>∃H O Q T,z.length<=L.length/\KP g q S (P++L.take z.length) o.heap.size bn bs x H O Q T/\NA o xq (⟨⟨a0,g.n+1,a1⟩,rt,rr,rv⟩:CP) L la lc Y bw x/\((∀b,Value.blk (.slice H (S++(P++L.take z.length)).length O)=some b->b<x.heap.size/\(b<u.heap.size\/C.heap.size<=b))/\∀b,Value.blk (.slice Q (Cz g q (P++L.take z.length)).length T)=some b->b<x.heap.size/\(b<u.heap.size\/C.heap.size<=b))/\LJ A.heap.size C.heap.size d x/\AC o x/\C.heap.size<=x.heap.size) (λ_ _=>False)
   ?_ ?_ ?_ ?_ ?_ (λc u h=>h.1) (λw' e=>D4.kp (.of_ext e)) ⟨H,O,Q,T,by simp,i8,D4,⟨λb hb=>⟨by have:=g0 b (by simpa using hb);omega,.inl (g0 b (by simpa using hb))⟩,λb hb=>⟨by have:=g1 b (by simpa using hb);omega,.inl (g1 b (by simpa using hb))⟩⟩,(K.fr (lE u C)).lt i7,stp,Qe _⟩ ?_ ?_ ?_
  ·rintro z x x' ⟨H,O,Q,T,h1,U,h3,F,h5,h6,h7⟩ qt;have:=qt.size;exact⟨H,O,Q,T,h1,U.qt qt,h3.kp (.of_qt qt),⟨λb hb=>⟨by have:=F.1 b hb;omega,(F.1 b hb).2⟩,λb hb=>⟨by have:=F.2 b hb;omega,(F.2 b hb).2⟩⟩,h5.qt qt,h6.qt (qt.mono (by omega)),by omega⟩
  ·rintro _ x x' h;exact h.elim
  ·rintro z x x' _ ⟨H,O,Q,T,h1,U,h3,F,h5,h6,h7⟩ qe;have:=qe.size;have L2:Le x x':=⟨qe⟩;exact⟨H,O,Q,T,h1,U.up,h3.kp (.of_ext qe),⟨λb hb=>⟨by have:=F.1 b hb;omega,(F.1 b hb).2⟩,λb hb=>⟨by have:=F.2 b hb;omega,(F.2 b hb).2⟩⟩,h5.fr qe,⟨h6.e.t qe⟩,by omega⟩
  ·rintro _ x x' _ h;exact h.elim
  ·rintro x c x2 x3 q1 ⟨_,r⟩ q2;exact((Kp.of_qt q1).trans r).trans (.of_qt q2)
  ·rintro z x x0 ⟨g4,vn,rfl,i9⟩ _ ⟨H,O,Q,T,h1,U,h3,F,h5,h6,h7⟩;refine Ap λbx v1 m1 z1=>rE z1 (L[z.length]) λv2 X2 f2 _=>?_;have X2:Bk v2 bx (enc L[z.length]) 341:=X2;have s2:AC x0 v2:=m1.st f2;refine⟨s2.e,λc1 qt=>?_⟩;have q3:=s2.e.size;have q4:=qt.size;have X:=X2.qt qt;have J:=(U.up (u':=v2)).qt qt;have D1:=(h3.kp (.of_ext s2.e)).kp (.of_qt qt);have j0:=(i9.up (w':=v2)).qt qt;have M1:=(h5.fr s2.e).qt qt;have q5:AC o c1:=⟨(h6.e.t s2.e).qt (qt.mono (by omega))⟩;have q6:(P++L.take z.length).length<=800:=by rw[Qb,Qm];omega
   have j1:=rC hg q (P++L.take z.length);have q8:=qZ hg q L[z.length];refine rX J.now rfl (rG X (L[z.length]) (HS L[z.length] rfl rfl (by decide) λb6 v6 e6 _ S6=>?_));have z6:=lz c1 v6;refine RP ⟨rfl,rfl⟩ (J.on.up (w':=v6)) S6 (by omega) (by rw[Qb];simp;omega) λv7 w7 O7 f7 j2=>?_;have k2:=(J.now.mv (w:=v6)).fro (J.on.up (w':=v6)) f7;have k3:=(J.sent.mv (w:=v6)).fro (J.on.up (w':=v6)) f7;have k4:=(J.os.up (w':=v6)).fro (J.on.up (w':=v6)) f7;have k5:=(j0.up (w':=v6)).fro (J.on.up (w':=v6)) f7;have q7:=O7.shape;obtain⟨a7,c7,rfl⟩:=q7;have z7:=f7.size;refine DI (B:=k2) (vs:=[.slice a7 _ c7]) rfl rfl rfl (Gs _ _ _) λw8 B8 f8 z8=>?_;have k3:=k3.fr f8 (by omega);have k4:=k4.frc f8 k2;have k5:=k5.frc f8 k2;have O8:=O7.frc f8 k2;refine rX k3 rfl ?_;have j3:=k5.shape;obtain⟨xa,xc,rfl⟩:=j3;refine RP ⟨rfl,rfl⟩ k4 k5.sl (by omega) (by omega) λv9 w9 O9 f9 j4=>?_;have k6:=k3.fro k4 f9;have B9:=B8.fro k4 f9;have j5:=O8.fro k4 f9;have q9:=O9.shape;obtain⟨a9,c9,rfl⟩:=q9;have z9:=f9.size;refine DI (B:=k6) (vs:=[.slice a9 _ c9]) rfl rfl rfl (Gs _ _ _) λE j6 Z r0=>?_;have j7:=B9.fr Z (by omega);have j8:=j5.frc Z k6;have j9:=O9.frc Z k6;have c5:(z++[[agg L[z.length],Value.slice xa (CF g q L[z.length]).length xc]]).length=z.length+1:=by simp
   have g5:P++L.take (z.length+1)=P++L.take z.length++[L[z.length]]:=by rw[Cs g4,Qp]
   have c6:Cz g q (P++L.take (z.length+1))=Cz g q (P++L.take z.length)++CF g q L[z.length]:=by rw[g5];unfold Cz;rw[Jl];simp
   have c8:S++(P++L.take (z.length+1))=S++(P++L.take z.length)++[L[z.length]]:=by rw[g5];simp only[Qp]
   have J2:KP g q S (P++L.take (z.length+1)) o.heap.size bn bs E a7 c7 a9 c9:=by
    refine⟨?_,?_,?_,?_⟩
    ·rw[c8];exact j7
    ·rw[c6];exact j6
    ·rw[c8];exact j8
    ·rw[c6];exact j9
   have zz:C.heap.size<=c1.heap.size:=by omega
   have k0:∀i,AV o.heap.size (.slice H (S++(P++L.take z.length)).length O) i->o.heap.size<=i/\(i<u.heap.size\/C.heap.size<=i):=λi hi=>⟨hi.1,(F.1 i hi.2.1).2⟩;have k1:∀i,AV o.heap.size (.slice Q (Cz g q (P++L.take z.length)).length T) i->o.heap.size<=i/\(i<u.heap.size\/C.heap.size<=i):=λi hi=>⟨hi.1,(F.2 i hi.2.1).2⟩;have kp:Kp (ZS o.heap.size Y bw (.slice la L.length lc) (L≠[])) c1 E:=((((Kp.of_ext e6.e).trans (.of_fr f7 λi hi hd=>by have:=hX i hi;have:=k0 i hd;omega)).trans (.of_fr f8 λi hi hd=>by have:=hX i hi;omega)).trans (.of_fr f9 λi hi hd=>by have:=hX i hi;have:=k1 i hd;omega)).trans (.of_fr Z λi hi hd=>by have:=hX i hi;omega);have k7:AC o E:=⟨Fr.st (Fr.st (Fr.st (Fr.st (lE o v6) f7 λi hi=>hi.1) f8 λi hi=>by omega) f9 λi hi=>hi.1) Z λi hi=>by omega⟩;have fr:Fr (λ_=>True) c1 E:=((((Fr.fr e6.e).trans (Fr.mono f7 λ_ _ _=>trivial)).trans (Fr.mono f8 λ_ _ _=>trivial)).trans (Fr.mono f9 λ_ _ _=>trivial)).trans (Fr.mono Z λ_ _ _=>trivial)
   have k8:∀b,Value.blk (.slice a7 (S++(P++L.take (z.length+1))).length c7)=some b->b<E.heap.size/\(b<u.heap.size\/C.heap.size<=b):=λb hb=>by
    rw[c8]at hb;rcases j2 with h|⟨h,h'⟩
    ·have:=F.1 b (h.symm.trans hb);omega
    ·have:=h.symm.trans hb;cases this;omega
   have k9:∀b,Value.blk (.slice a9 (Cz g q (P++L.take (z.length+1))).length c9)=some b->b<E.heap.size/\(b<u.heap.size\/C.heap.size<=b):=λb hb=>by
    rw[c6]at hb;rcases j4 with h|⟨h,h'⟩
    ·have:=F.2 b (h.symm.trans hb);omega
    ·have:=h.symm.trans hb;cases this;omega
   have l0:LJ A.heap.size C.heap.size d E:=M1.fr fr;exact⟨⟨a7,c7,a9,c9,by rw[c5];omega,by rw[c5];exact J2,D1.kp kp,by rw[c5];exact⟨k8,k9⟩,l0,k7,by omega⟩,⟨_,fr⟩,kp⟩
  ·rintro z D u6 hE ⟨H,O,Q,T,h1,U,h3,F,h5,h6,h7⟩ hD hd;rw[hE,Qg]at U F;refine rX h3.w rfl (iF (· rfl) ?_);have K6:=h5.add (D:=D) (by omega) hD hd
   have l1:(P++L).Perm ((ol.take (k+1)).flatMap λp=>Ha W (Ba S M) p.toNat):=by
    rw[Cs b9,Jl];refine List.Perm.append hP ?_;simp only[JV,XM,QE];rw[hp,QW,<-b3];exact c0
   refine rA ⟨rfl,b9,rfl,K6,⟨P++L,H,O,Q,T,l1,U,λb hb=>(F.1 b hb).1,λb hb=>(F.2 b hb).1⟩,h6,by omega⟩
  ·rintro c D x h;exact h.elim
 ·have V:k=ol.length:=by omega
  obtain rfl:=V;rw[Qg]at hP;have l2:=hP.trans (tO hW.1 a6);have j1:=rC hg q P;refine iF (· rfl) (rX I.now rfl (AA (W1 Tryz.sortS (k:=4) (show FZ PP 341 4 from inferInstance) rfl WH rU (f:=245) rfl (λx y W=>zND) I.on (by rw[Qb];omega)) ?_));rintro _ u2 ⟨rfl,N,hN,l3,ON,f2⟩;have g6:=hN.length_eq;rw[Qb]at g6;have l4:=zQO (q:=q) (g:=g) hS l2 hN (l3.imp λh hl=>h ((dJ _ _).2 hl));obtain⟨l5,l6⟩:=l4;have B2:=I.now.fro I.on f2;have C2:=I.sent.fro I.on f2;have O2:=I.os.fro I.on f2;have K2:=K.fr f2;have s2:AC o u2:=⟨Fr.st su.e f2 λi hi=>hi.1⟩;have m4:(S++P).length=N.length:=by rw[Qb,g6]
  refine dQ 7 λu3 e3=>tX B2 rfl nf (tX B2 rfl nf (tX C2 rfl nf ?_));refine AA (rD (ON.sl.up (w':=u3)) (O2.sl.up (w':=u3)) (by omega) (by omega)) ?_;rintro fv C ⟨OF,e4⟩;refine⟨e4.e,?_⟩;have z2:=f2.size;have z3:=e3.e.size;have K4:=(K2.fr e3.e).fr e4.e
  have fin:∀u',Qt A.heap.size C u'->(∃v1 v2,Value.tuple #[.slice H (S++P).length O,fv,.int .i64 0]=.tuple #[v1,v2,.int .i64 0]/\AD w.heap.size 341 u' v1 (Hv g q S M).1/\AD w.heap.size 329 u' v2 (Hv g q S M).2)/\AC w u':=λu' qt=>by
   have r1:o.heap.size<=A.heap.size:=by omega
   refine⟨⟨_,_,rfl,?_,?_⟩,⟨(lE w C).qt (qt.mono (by omega))⟩⟩
   ·rw[<-l5];exact((ON.up (w':=C)).qt qt).mono i1
   ·rw[<-l6];exact(OF.qt qt).mono (by omega)
  exact zOm rfl K4 fin
theorem tN{c:Nat}{L:List AN}{bl bs:Nat}{dir v slot:Int}(E:B<=w.heap.size)(K:Bk w bl [.slice a n c] 255)(O:AD B 329 w (.slice a n c) L)(S:Bk w bs [.int .i64 slot] 3)(F:L.length<=1000):
  Sp PP 232 #[.int .i64 dir,.int .i64 v,.pointer (some ⟨bl,0,none⟩),.pointer (some ⟨bs,0,none⟩)] w λ_ w'=>(∃o p r,Bk w' bl [.slice o p r] 255/\AD B 329 w' (.slice o p r) (L++[⟨⟨slot,dir,v⟩,0⟩]))/\Bk w' bs [.int .i64 slot] 3/\Fr (λi=>i=bl\/B<=i) w w':=by
 refine eN ?_;refine rX K rfl (rX S rfl ?_);refine AJ (cs:=enc (⟨slot,dir,v⟩:Al)) rfl (AJ (cs:=enc (⟨⟨slot,dir,v⟩,0⟩:AN)) rfl (bS (⟨⟨slot,dir,v⟩,0⟩:AN) λG w1 n1 _ z=>?_));have H:=lz w w1;refine FR ⟨rfl,rfl⟩ (O.up (w':=w1)) z (by omega) (by simp;omega) λI w2 t b=>?_;have d:=(K.mv (w:=w1)).fro (O.up (w':=w1)) b;have x:=(S.mv (w:=w1)).fro (O.up (w':=w1)) b;have A:=t.shape;obtain⟨a2,c2,rfl⟩:=A;refine rS d [.slice a2 _ c2] (Gs _ _ _) λJ C f _=>?_
 have l:bs≠bl:=by
  rintro rfl;have D:=d.h;have y:=x.h;rw[D]at y;cases y
 exact⟨⟨a2,_,c2,C,t.frc f d⟩,x.fr f l,((Fr.fr n1.e).trans (b.mono λi _ hi=>.inr hi.1)).trans (f.mono λi _ hi=>.inl hi)⟩
theorem sF{slot:Int}:Cf g q slot 0=(src q 0).map (λv:Nat=>(⟨⟨slot,0,v⟩,0⟩:AN))++(src q 1).map (λv:Nat=>(⟨⟨slot,1,v⟩,0⟩:AN)):=rfl
theorem zJR{xq:RQ}{slot:Int}(K:xq.kind=q.kind/\xq.frm=q.frm/\xq.to=q.to)(A:LZ q g.n):
  Sp PP 169 #[agg xq,.int .i64 slot] w λv w'=>AD w.heap.size 329 w' v (Cf g q slot 0)/\AC w w':=by
 obtain⟨M,t,C⟩:=K;have f:=A.frm;have D:=A.kind;have x:src q 0=[q.frm.toNat]:=rfl;refine eN ?_;refine BM λbq w1 n1 y=>BM λbs w2 n2 O=>Ap λbl h n3 E=>?_;have E:Bk h bl [.slice none 0 0] 255:=E;have Q:=n1.b;have d:=n1.s;have R:=n2.b;have S:=n2.s;have T:=n3.b;have U:=n3.s;refine rX y rfl ?_;have F:=tN (L:=[]) (dir:=0) (v:=xq.frm) (B:=h.heap.size) (Qe _) E (AD.nil _ _ _) (O.mv (w:=h)) (by simp);refine ite (λV=>?_) (λV=>?_)
 ·refine rX y rfl (AA F ?_);rintro _ c ⟨⟨o,n4,p,z,l⟩,G,r⟩;have s4:AC w2 c:=⟨Fr.st (lE w2 h) r λi hi=>by omega⟩;refine rX y rfl ?_;have W:=r.size;refine AA (tN (dir:=1) (v:=xq.to) W z l G (by simp)) ?_;rintro _ w5 ⟨⟨a5,n5,c5,X,I⟩,S5,Y⟩;refine rX X rfl ?_;have H:=A.to (by omega);have d:src q 1=[q.to.toNat]:=by unfold src;rw[if_neg (by decide),if_pos (by omega)]
  have e:([]:List AN)++[⟨⟨slot,0,xq.frm⟩,0⟩]++[⟨⟨slot,1,xq.to⟩,0⟩]=Cf g q slot 0:=by
   rw[sF,x,d,t,C];simp only[QS,JP,Je,VO];rw[Jh f.1,Jh H.1]
  rw[e]at I;exact⟨I.mono (by omega),⟨Fr.st (lE w c) Y λi hi=>by omega⟩⟩
 ·have fin:∀(c:World) (o:OA) (n4 p:Nat),AD h.heap.size 329 c (.slice o n4 p) (([]:List AN)++[⟨⟨slot,0,xq.frm⟩,0⟩])->AD w.heap.size 329 c (.slice o n4 p) (Cf g q slot 0):=λc o n4 p l=>by
   have d:src q 1=[]:=by unfold src;rw[if_neg (by decide),if_neg (by omega)]
   have e:([]:List AN)++[⟨⟨slot,0,xq.frm⟩,0⟩]=Cf g q slot 0:=by
    rw[sF,x,d,t];simp only[QS,JP,Je,QE];rw[Jh f.1]
   rw[<-e];exact l.mono (by omega)
  refine ite (λZ=>?_) (λZ=>?_)
  ·refine rX y rfl (AA F ?_);rintro _ c ⟨⟨o,n4,p,z,l⟩,G,r⟩;refine rX z rfl ?_;exact⟨fin c _ _ _ l,⟨Fr.st (lE w h) r λi hi=>by omega⟩⟩
  ·refine ite (λJ=>?_) (λJ=>absurd J (by omega));refine rX y rfl (AA F ?_);rintro _ c ⟨⟨o,n4,p,z,l⟩,G,r⟩;refine rX z rfl ?_;exact⟨fin c _ _ _ l,⟨Fr.st (lE w h) r λi hi=>by omega⟩⟩
theorem Tw{v n:Int}{b:Nat}(K:Bk w b [.int .i64 n] 3):Sp PP 314 #[.int .i64 v,.pointer (some ⟨b,0,none⟩)] w λr w'=>Ao (0<=v/\v<n) r/\w'=w:=by
 refine eN ?_;refine ite (λc=>?_) (λc=>⟨.f λh=>c h.1,rfl⟩);refine rX K rfl ?_;exact ite (λd=>⟨.t ⟨c,d⟩,rfl⟩) (λd=>⟨.f λh=>d h.2,rfl⟩)
theorem zH0{s:ByteArray}(b:s.size<=1000000):Sp PP 315 #[.string s] w λv w'=>Ao (¬Fv s) v/\AC w w':=by
 refine eN ?_;refine AA (wB b) ?_;rintro _ w1 ⟨⟨rfl,h⟩|⟨rfl,h⟩,d⟩
 ·exact⟨.f λc=>c h,stp⟩
 ·exact⟨.t h,stp⟩
theorem nE{xq:RQ}{n:Int}(V:UF w xq q)(Q:q.words.length<=1000000)(R:∀s∈q.words,s.size<=1000000):
  Sp PP 224 #[agg xq,.int .i64 n] w λv w'=>((CD q n/\v=.int .i64 0)\/(¬CD q n/\v=.int .i64 180))/\AC w w':=by
 obtain⟨G,H,I,J,K,L⟩:=V;obtain⟨x1,x2,x3,⟨M,S,O⟩,x4,x5⟩:=xq;simp only at G H I K L;subst G H I K L;have C:S=q.words.length:=J.len;subst C;have z:agg (⟨q.kind,q.frm,q.to,⟨M,q.words.length,O⟩,q.rad,q.most⟩:RQ)=.agg #[.int .i64 q.kind,.int .i64 q.frm,.int .i64 q.to,.slice M q.words.length O,.int .i64 q.rad,.int .i64 q.most]:=rfl;rw[z];refine eN ?_;refine BM λbq w1 n1 c=>BM λbn w2 n2 l=>?_;have d:¬CD q n->∀u:World,AC w u->((CD q n/\Value.int .i64 180=.int .i64 0)\/(¬CD q n/\Value.int .i64 180=.int .i64 180))/\AC w u:=λh u s=>⟨.inr ⟨h,rfl⟩,s⟩;have o:CD q n->∀u:World,AC w u->((CD q n/\Value.int .i64 0=.int .i64 0)\/(¬CD q n/\Value.int .i64 0=.int .i64 180))/\AC w u:=λh u s=>⟨.inl ⟨h,rfl⟩,s⟩;refine rX c rfl (ite (λT=>?_) (λT=>?_))
 ·refine rX c rfl (AA (Tw (l.mv (w:=w2))) ?_);rintro _ _ ⟨⟨rfl,h5⟩|⟨rfl,h5⟩,rfl⟩
  case' inr=>exact d (λh=>h5 h.2.1) _ stp
  refine rX c rfl (AA (Tw (l.mv (w:=_))) ?_);rintro _ _ ⟨⟨rfl,e⟩|⟨rfl,e⟩,rfl⟩
  ·exact o ⟨by omega,h5,λ_=>e,λh=>absurd h (by omega)⟩ _ stp
  ·exact d (λh=>e (h.2.2.1 (by omega))) _ stp
 refine ite (λU=>?_) (λU=>?_)
 ·refine rX c rfl (AA (Tw (l.mv (w:=w2))) ?_);rintro _ _ ⟨⟨rfl,h5⟩|⟨rfl,h5⟩,rfl⟩
  case' inr=>exact d (λh=>h5 h.2.1) _ stp
  refine rX c rfl (AA (Tw (l.mv (w:=_))) ?_);rintro _ _ ⟨⟨rfl,e⟩|⟨rfl,e⟩,rfl⟩
  ·exact o ⟨by omega,h5,λ_=>e,λh=>absurd h (by omega)⟩ _ stp
  ·exact d (λh=>e (h.2.2.1 (by omega))) _ stp
 refine ite (λf=>?_) (λf=>d (λh=>by have:=h.1;omega) _ stp);refine rX c rfl (ite (λW=>?_) (λW=>?_))
 case' refine_2 =>
  have b:¬CD q n:=λh=>by have:=(h.2.2.2 f).1;omega
  refine rX c rfl (AA (Tw (l.mv (w:=_))) ?_);rintro _ _ ⟨⟨rfl,h5⟩|⟨rfl,h5⟩,rfl⟩
  ·exact d b _ stp
  ·exact d b _ stp
 refine rX c rfl (ite (λh5=>?_) (λh5=>?_))
 case' refine_2 =>
  have b:¬CD q n:=λh=>by have:=(h.2.2.2 f).1;omega
  refine rX c rfl (AA (Tw (l.mv (w:=_))) ?_);rintro _ _ ⟨⟨rfl,h5⟩|⟨rfl,h5⟩,rfl⟩
  ·exact d b _ stp
  ·exact d b _ stp
 refine rX c rfl (AA (qG (g:=315) (first:=[]) (cap:=[]) (p:=λs=>¬Fv s) (J.up (w':=w2)) Q (λr u1 X _=>zH0 (R r X))) ?_);rintro _ Y ⟨⟨rfl,e⟩|⟨rfl,e⟩,e3⟩
 ·have b:¬CD q n:=λh=>by
   obtain⟨y,Z,A⟩:=e;exact A ((h.2.2.2 f).2.2.2 y Z)
  refine rX c rfl (AA (Tw (l.mv (w:=_))) ?_);rintro _ _ ⟨⟨rfl,h5⟩|⟨rfl,h5⟩,rfl⟩
  ·exact d b _ stp
  ·exact d b _ stp
 have D:∀s∈q.words,Fv s:=λs h=>Classical.byContradiction λhn=>e ⟨s,h,hn⟩;refine rX c rfl (AA (Tw (l.mv (w:=Y))) ?_);rintro _ _ ⟨⟨rfl,A⟩|⟨rfl,A⟩,rfl⟩
 case' inr=>exact d (λh=>A h.2.1) _ stp
 refine rX c rfl (ite (λE=>?_) (λE=>d (λh=>E (h.2.2.2 f).2.1.1) _ stp));refine rX c rfl (ite (λF=>?_) (λF=>d (λh=>F (h.2.2.2 f).2.1.2) _ stp));refine rX c rfl (ite (λt=>?_) (λt=>d (λh=>t (h.2.2.2 f).2.2.1.1) _ stp));refine rX c rfl (ite (λx=>?_) (λx=>d (λh=>x (h.2.2.2 f).2.2.1.2) _ stp));exact o ⟨.inr (.inr f),A,λh=>absurd h (by omega),λ_=>⟨by omega,⟨E,F⟩,⟨t,x⟩,D⟩⟩ _ stp
abbrev Hg (w:World) (b:Nat) (s:U8) (A:Nat):Prop:=Bk w b [Ag s,.int .i64 (A:Int)] 363
theorem Wu{A b:Nat}(B:Hg w b s A)(l:s.length<=4611686018427387904):
  El PP 182 #[.pointer (some ⟨b,0,none⟩)] w (λv w'=>∃n h:Nat,Fq EH s A n h/\v=.int .i64 (n:Int)/\Hg w' b s h/\Fr (λi=>i=b) w w')
   (λc w'=>c=DA/\EH (s.drop A)=none/\Fr (λi=>i=b) w w'):=
 (kX B l).mono (λv w' ⟨n,d,e,f,o⟩=>⟨n,_,NW d,e,f,o⟩) (λc w' ⟨d,e,f⟩=>⟨d,NZ e,f⟩)
theorem qV{A b:Nat}(B:Hg w b s A)(o:s.length<=4611686018427387904):
  El PP 183 #[.pointer (some ⟨b,0,none⟩),.int .i64 (m:Int)] w (λv w'=>∃n d:Nat,Fq EH s A n d/\n<=m/\v=.int .i64 (n:Int)/\Hg w' b s d/\Fr (λi=>i=b) w w')
   (λc w'=>c=DA/\(∀n t,EH (s.drop A)=some (n,t)->¬n<=m)/\Fr (λi=>i=b) w w'):=by
 refine HB Aa rfl ?_;refine AO (Wu B o) ?_ ?_
 ·rintro _ p ⟨n,d,f,rfl,r,e⟩;refine ite (λh=>?_) (λh=>?_)
  ·refine AO MC ?_ ?_
   ·rintro _ x ⟨_,rfl,rfl⟩;exact⟨n,d,f,by omega,rfl,r,e⟩
   ·rintro _ y ⟨h,_⟩;cases h
  ·refine AO MC ?_ ?_
   ·rintro _ y ⟨h,_⟩;cases h
   ·rintro _ x ⟨_,rfl,rfl⟩;refine⟨rfl,λk t l=>?_,e⟩;rw[f.2]at l;cases l;omega
 ·rintro _ p ⟨rfl,z,e⟩;exact⟨rfl,(λn t f=>by simp_all),e⟩
theorem oK{A b:Nat}(B:Hg w b s A)(p:s.length<=4611686018427387904):
  El PP 313 #[.pointer (some ⟨b,0,none⟩)] w (λv w'=>∃x f,Fq GT s A x f/\v=Ag x/\Hg w' b s f/\Fr (λi=>i=b) w w')
   (λc w'=>c=DA/\GT (s.drop A)=none/\Fr (λi=>i=b) w w'):=by
 refine HB Aa rfl ?_;refine dQ 16 λC D=>tX B rfl nf (tX B rfl nf (AA (mU (A:=A) p) ?_));rintro v E ⟨⟨x,f,r,rfl⟩|⟨l,rfl⟩,o⟩
 ·refine⟨o.e,?_⟩;refine AO MC ?_ ?_
  ·rintro _ d ⟨_,rfl,rfl⟩;have t:=B.mv (w:=d);refine rS t [.int .i64 _] (IZ _) λF y z _=>?_;exact⟨x,f,r,rfl,y,(fE w d).trans z⟩
  ·rintro _ d ⟨h,_⟩;cases h
 ·refine⟨o.e,?_⟩;refine AO MC ?_ ?_
  ·rintro _ d ⟨h,_⟩;cases h
  ·rintro _ d ⟨_,rfl,rfl⟩;exact⟨rfl,l,fE w d⟩
theorem Th{e:List ResultVar}{F:Nat->Value}{c:List PanicEntry}{R:KW}{b:PW}{d:Value}(h0:F 4294967296=d)(hd:FH d=[])(h:b c w):Ho P e R b F c w:=by
 unfold Ho;rw[h0,hd];exact h
theorem zQt{r:U8}(h:EH r=none):Kq k r=none:=by unfold Kq;rw[h]
theorem YK{a:Nat}{r c:U8}(h:EH r=some (a,c))(d:k<=2):Kq k r=match EH c with
  |none=>none
  |some (b,e)=>some (⟨k,a,b,[],0,0⟩,e):=by unfold Kq;rw[h];simp only;rw[if_pos d];rfl
theorem YI{a:Nat}{r b:U8}(h:EH r=some (a,b))(c:¬k<=2):Kq k r=match EM b with
  |none=>none
  |some (d,e)=>match EH e with
   |none=>none
   |some (x,f)=>match EH f with
    |none=>none
    |some (y,l)=>some (⟨k,a,0,d.map AS,x,y⟩,l):=by unfold Kq;rw[h];simp only;rw[if_neg c];rfl
def nU (B:Nat) (w:World) (x:RQ) (q:FX):Prop:=x.kind=q.kind/\x.frm=q.frm/\x.to=q.to/\AD B 9 w x.words.v q.words/\x.rad=q.rad/\x.most=q.most
abbrev lL (s:U8) (A b kind:Nat) (w:World) (v:Value) (w':World):Prop:=∃q A' x,Fq (Kq kind) s A q A'/\v=agg x/\nU w.heap.size w' x q/\Hg w' b s A'/\Fr (λi=>i=b) w w'
theorem zLO{A b kind:Nat}(B:Hg w b s A)(hs:s.length<=4611686018427387904):
  El PP 223 #[.pointer (some ⟨b,0,none⟩),.int .i64 (kind:Int)] w (λv w'=>lL s A b kind w v w')
   (λc w'=>c=DA/\Kq kind (s.drop A)=none/\Fr (λi=>i=b) w w'):=by
 have b8:=B.lt;refine HB Aa rfl ?_;refine Ap λbr w1 n1 R1=>?_;have b9:=n1.b;have c0:=n1.s;refine AO (Wu (B.mv (w:=w1)) hs) ?_ ?_
 case' refine_2 =>
  rintro _ w2 ⟨rfl,r,f2⟩;exact⟨rfl,zQt r,(Fr.fr n1.e).trans f2⟩
 rintro _ w2 ⟨a,A2,b0,rfl,B2,f2⟩;have R2:=R1.fr f2 (by omega);have z2:=f2.size;refine AJ (cs:=[.int .i64 (kind:Int),.int .i64 (a:Int),.int .i64 0,.slice none 0 0,.int .i64 0,.int .i64 0]) rfl (Ap λbq w3 n3 Q3=>?_);have c1:=n3.b;have c2:=n3.s;refine rS Q3 [.int .i64 (kind:Int),.int .i64 (a:Int),.int .i64 0,.slice none 0 0,.int .i64 0,.int .i64 0] (by intro u H;simp at H;rcases H with rfl|rfl|rfl|rfl|rfl|rfl<;>rfl) λw4 Q4 f4 _=>?_;have Q4:Bk w4 bq [.int .i64 (kind:Int),.int .i64 (a:Int),.int .i64 0,.slice none 0 0,.int .i64 0,.int .i64 0] 101:=Q4;have lq:=Q4.lt;have c3:=f4.size;have I:¬br=bq:=by omega
 have J:¬b=bq:=by omega
 have R4:=(R2.mv (w:=w3)).fr f4 I;have B4:Hg w4 b s A2:=(B2.mv (w:=w3)).fr f4 J;have F4:Fr (λi=>i=b) w w4:=Fr.st' ((((Fr.fr n1.e).trans f2).trans (Fr.fr n3.e))) f4 λi hi=>by omega
 have c4:=R1.lt;refine ite (λh1=>?_) (λh1=>?_)
 ·have a0:kind<=2:=by omega
  have e2:=YK b0.2 a0;refine AO (Wu B4 hs) ?_ ?_
  case' refine_2 =>
   rintro _ w5 ⟨rfl,r,Q⟩;exact⟨rfl,by rw[e2,r],F4.trans Q⟩
  rintro _ w5 ⟨c5,U,R,rfl,B5,Q⟩;refine rS (Q4.fr Q (by omega)) [.int .i64 (c5:Int)] (IZ _) λw6 K l _=>?_;have K:Bk w6 bq [.int .i64 (kind:Int),.int .i64 (a:Int),.int .i64 (c5:Int),.slice none 0 0,.int .i64 0,.int .i64 0] 101:=K;refine Cq (ds:=[.int .i64 (kind:Int),.int .i64 (a:Int),.int .i64 (c5:Int),.slice none 0 0,.int .i64 0,.int .i64 0]) (B:=K) rfl rfl ?_;have R6:=(R4.fr Q (by omega)).fr l I;refine rS R6 [.int .i64 (kind:Int),.int .i64 (a:Int),.int .i64 (c5:Int),.slice none 0 0,.int .i64 0,.int .i64 0] (by intro u H;simp at H;rcases H with rfl|rfl|rfl|rfl|rfl|rfl<;>rfl) λw7 R7 f7 _=>?_;have R7:Bk w7 br [.int .i64 (kind:Int),.int .i64 (a:Int),.int .i64 (c5:Int),.slice none 0 0,.int .i64 0,.int .i64 0] 101:=R7;have B7:Hg w7 b s U:=(B5.fr l J).fr f7 (by omega);have F7:Fr (λi=>i=b) w w7:=Fr.st' (Fr.st' (F4.trans Q) l λi hi=>by omega) f7 λi hi=>by omega
  refine AR (B:=R7) rfl ?_;exact⟨⟨kind,a,c5,[],0,0⟩,U,⟨kind,a,c5,⟨none,0,0⟩,0,0⟩,⟨R.1,by rw[e2,R.2]⟩,rfl,⟨rfl,rfl,rfl,AD.nil _ _ _,rfl,rfl⟩,B7,F7⟩
 ·have a0:¬kind<=2:=by omega
  have e3:=YI b0.2 a0;refine AO (qV (m:=8) B4 hs) ?_ ?_
  case' refine_2 =>
   rintro _ w5 ⟨rfl,r,Q⟩;refine⟨rfl,?_,F4.trans Q⟩
   have:EM (s.drop A2)=none:=by
    unfold EM
    cases h:EH (s.drop A2) with
    |none=>rfl
    |some p=>obtain⟨n,t⟩:=p;simp only;rw[if_neg (r n t h)]
   rw[e3,this]
  rintro _ w5 ⟨N,U,R,hN,rfl,B5,Q⟩;have ew:EM (s.drop A2)=Ae GT N (s.drop U):=by unfold EM;rw[R.2];simp only;rw[if_pos hN]
  have c6:=B.lt;have Q5:=Q4.fr Q (by omega);have R5:Bk w5 br (Value.cells (.agg #[.int .i64 0,.int .i64 0,.int .i64 0,.slice none 0 0,.int .i64 0,.int .i64 0])).toList 101:=R4.fr Q (by omega);have z5:=Q.size;have h5:U<=s.length:=R.1
  refine cN 18 [] 18 N (λk u=>∃(Ak:Nat) (d:List (U8)) (V:OA) (W:Nat),d.length=k/\Gt d (Ae GT (N - k) (s.drop Ak))=Ae GT N (s.drop U)/\Ak<=s.length/\Hg u b s Ak/\Bk u bq [.int .i64 (kind:Int),.int .i64 (a:Int),.int .i64 0,.slice V (d.map AS).length W,.int .i64 0,.int .i64 0] 101/\AD w5.heap.size 9 u (.slice V (d.map AS).length W) (d.map AS)/\Bk u br (Value.cells (.agg #[.int .i64 0,.int .i64 0,.int .i64 0,.slice none 0 0,.int .i64 0,.int .i64 0])).toList 101/\Fr (λi=>i=b) w u/\w5.heap.size<=u.heap.size)
   ⟨U,[],none,0,rfl,by rw[dR];simp,h5,B5,by simpa using Q5,by simpa using AD.nil _ _ _,R5,F4.trans Q,Qe _⟩ ?_
  rintro k G u hk ⟨Ak,d,V,W,a1,C,c7,Bu,Qu,Ou,Ru,Fu,zu⟩;refine ite (λAY=>?_) (λc9=>?_)
  ·have a4:k<N:=by omega
   have e0:N - k=(N - (k+1))+1:=by omega
   rw[e0]at C;have b3:=Qu.lt;refine dT (λ_=>True) (.one 0 (.one 2 (.duo 1 (oL [3,4,5,6,7] .nil) 3 (.duo 1 (oL [4,5,6,7] .nil) 4 (.lone 1 (oL [5,6,7] .nil)))))) λX e1=>?_;have BX:Hg X b s Ak:=Bk.mv (w:=X) Bu;have EX:=e1.e;refine⟨?_,?_⟩
   ·refine rX Qu rfl ⟨Fr.refl _ _,?_⟩;refine AO (oK (A:=Ak) BX hs) ?_ ?_
    case' refine_2 =>
     rintro _ L ⟨rfl,r,l⟩
     have a5:EM (s.drop A2)=none:=by
      rw[ew,<-C,Zq r];rfl
     have o:DA=DA/\Kq kind (s.drop A)=none/\Fr (λi=>i=b) w L:=⟨rfl,by rw[e3,a5],(Fu.trans (Fr.fr EX)).trans l⟩;intro F' ag;show Ho PP _ _ (λc w'=>c=DA/\Kq kind (s.drop A)=none/\Fr (λi=>i=b) w w') F' DA L;exact Th (ag 4294967296 rfl) rfl o
    rintro _ L ⟨x,M,hr,rfl,B6,l⟩;refine⟨Fr.mono l λ_ _ _=>trivial,?_⟩;have K:=(Bk.mv (w:=X) Qu).fr l (by omega);have R6:=(Bk.mv (w:=X) Ru).fr l (by omega);have F:=(AD.up (w':=X) Ou).frc l BX;have z6:=l.size;have z1:=lz u X;refine bS (AS x) λb7 f E _ S7=>⟨Fr.fr E.e,?_⟩;have Y:=K.mv (w:=f);have z7:=lz L f;refine FR ⟨rfl,rfl⟩ (F.up (w':=f)) S7 (by omega) (by simp;omega) λv8 u8 O z=>⟨Fr.mono z λ_ _ _=>trivial,?_⟩;have S:=Y.fro (F.up (w':=f)) z;have R8:=(R6.mv (w:=f)).fro (F.up (w':=f)) z;have B8:Hg u8 b s M:=(Bk.mv (w:=f) B6).fro (F.up (w':=f)) z;have z8:=z.size;have em:(d.map AS)++[AS x]=(d++[x]).map AS:=by simp
    rw[em]at O;have q8:=O.shape;obtain⟨a8,c8,rfl⟩:=q8;refine rS S [.slice a8 ((d++[x]).map AS).length c8] (by intro u H;simp at H;subst H;rfl) λu9 Z D _=>⟨Fr.mono D λ_ _ _=>trivial,?_⟩;have B9:Hg u9 b s M:=B8.fr D (by omega);have F9:Fr (λi=>i=b) w u9:=Fr.st' (Fr.st' (((Fu.trans (Fr.fr EX)).trans l).trans (Fr.fr E.e)) z λi hi=>by have:=hi.1;omega) D λi hi=>by omega
    have T:Gt (d++[x]) (Ae GT (N - (k+1)) (s.drop M))=Ae GT N (s.drop U):=by rw[<-C];exact(TM hr.2 d).symm
    exact rA ⟨rfl,a4,M,d++[x],a8,c8,by simp[a1],T,hr.1,B9,Z,O.frc D S,R8.fr D (by omega),F9,by omega⟩
   ·refine AO (oK (A:=Ak) BX hs) ?_ ?_
    case' refine_2 =>
     rintro _ L ⟨rfl,r,l⟩
     have a5:EM (s.drop A2)=none:=by
      rw[ew,<-C,Zq r];rfl
     have o:DA=DA/\Kq kind (s.drop A)=none/\Fr (λi=>i=b) w L:=⟨rfl,by rw[e3,a5],(Fu.trans (Fr.fr EX)).trans l⟩;intro F' ag;show Ho PP _ _ (λc w'=>c=DA/\Kq kind (s.drop A)=none/\Fr (λi=>i=b) w w') F' DA L;exact Th (ag 4294967296 rfl) rfl o
    rintro _ L ⟨x,M,hr,rfl,B6,l⟩;refine⟨Fr.mono l λ_ _ _=>trivial,?_⟩;have K:=(Bk.mv (w:=X) Qu).fr l (by omega);have R6:=(Bk.mv (w:=X) Ru).fr l (by omega);have F:=(AD.up (w':=X) Ou).frc l BX;have z6:=l.size;have z1:=lz u X;refine⟨?_,?_⟩
    ·refine rX K rfl ⟨Fr.refl _ _,?_⟩;refine bS (AS x) λb7 f E _ S7=>⟨Fr.fr E.e,?_⟩;have Y:=K.mv (w:=f);have z7:=lz L f;refine FR ⟨rfl,rfl⟩ (F.up (w':=f)) S7 (by omega) (by simp;omega) λv8 u8 O z=>⟨Fr.mono z λ_ _ _=>trivial,?_⟩;have S:=Y.fro (F.up (w':=f)) z;have R8:=(R6.mv (w:=f)).fro (F.up (w':=f)) z;have B8:Hg u8 b s M:=(Bk.mv (w:=f) B6).fro (F.up (w':=f)) z;have z8:=z.size;have em:(d.map AS)++[AS x]=(d++[x]).map AS:=by simp
     rw[em]at O;have q8:=O.shape;obtain⟨a8,c8,rfl⟩:=q8;refine rS S [.slice a8 ((d++[x]).map AS).length c8] (by intro u H;simp at H;subst H;rfl) λu9 Z D _=>⟨Fr.mono D λ_ _ _=>trivial,?_⟩;have B9:Hg u9 b s M:=B8.fr D (by omega);have F9:Fr (λi=>i=b) w u9:=Fr.st' (Fr.st' (((Fu.trans (Fr.fr EX)).trans l).trans (Fr.fr E.e)) z λi hi=>by have:=hi.1;omega) D λi hi=>by omega
     have T:Gt (d++[x]) (Ae GT (N - (k+1)) (s.drop M))=Ae GT N (s.drop U):=by rw[<-C];exact(TM hr.2 d).symm
     exact rA ⟨rfl,a4,M,d++[x],a8,c8,by simp[a1],T,hr.1,B9,Z,O.frc D S,R8.fr D (by omega),F9,by omega⟩
    ·refine bS (AS x) λb7 f E _ S7=>⟨Fr.fr E.e,?_⟩;refine rX K rfl ⟨Fr.refl _ _,?_⟩;have Y:=K.mv (w:=f);have z7:=lz L f;refine FR ⟨rfl,rfl⟩ (F.up (w':=f)) S7 (by omega) (by simp;omega) λv8 u8 O z=>⟨Fr.mono z λ_ _ _=>trivial,?_⟩;have S:=Y.fro (F.up (w':=f)) z;have R8:=(R6.mv (w:=f)).fro (F.up (w':=f)) z;have B8:Hg u8 b s M:=(Bk.mv (w:=f) B6).fro (F.up (w':=f)) z;have z8:=z.size;have em:(d.map AS)++[AS x]=(d++[x]).map AS:=by simp
     rw[em]at O;have q8:=O.shape;obtain⟨a8,c8,rfl⟩:=q8;refine rS S [.slice a8 ((d++[x]).map AS).length c8] (by intro u H;simp at H;subst H;rfl) λu9 Z D _=>⟨Fr.mono D λ_ _ _=>trivial,?_⟩;have B9:Hg u9 b s M:=B8.fr D (by omega);have F9:Fr (λi=>i=b) w u9:=Fr.st' (Fr.st' (((Fu.trans (Fr.fr EX)).trans l).trans (Fr.fr E.e)) z λi hi=>by have:=hi.1;omega) D λi hi=>by omega
     have T:Gt (d++[x]) (Ae GT (N - (k+1)) (s.drop M))=Ae GT N (s.drop U):=by rw[<-C];exact(TM hr.2 d).symm
     exact rA ⟨rfl,a4,M,d++[x],a8,c8,by simp[a1],T,hr.1,B9,Z,O.frc D S,R8.fr D (by omega),F9,by omega⟩
  ·have q_:k=N:=by omega
   obtain rfl:=q_;rw[JN]at C;have a6:EM (s.drop A2)=some (d,s.drop Ak):=by rw[ew,<-C];simp[Ae,Gt]
   have b3:=Qu.lt;have d0:=Ru.lt;refine AO (Wu Bu hs) ?_ ?_
   case' refine_2 =>
    rintro _ L ⟨rfl,r,l⟩;have o:DA=DA/\Kq kind (s.drop A)=none/\Fr (λi=>i=b) w L:=⟨rfl,by rw[e3,a6];simp only;rw[r],Fu.trans l⟩;exact o
   rintro _ L ⟨x,A6,b1,rfl,B6,l⟩;have K:=Qu.fr l (by omega);have R6:=Ru.fr l (by omega);have F:=Ou.frc l Bu;refine rS K [.int .i64 (x:Int)] (IZ _) λf Y f7 _=>?_;have Y:Bk f bq [.int .i64 (kind:Int),.int .i64 (a:Int),.int .i64 0,.slice V (d.map AS).length W,.int .i64 (x:Int),.int .i64 0] 101:=Y;have B7:Hg f b s A6:=B6.fr f7 J;have R7:=R6.fr f7 I;have O7:=F.frc f7 K;have F7:Fr (λi=>i=b) w f:=Fr.st' (Fu.trans l) f7 λi hi=>by omega
   refine AO (Wu B7 hs) ?_ ?_
   case' refine_2 =>
    rintro _ u4 ⟨rfl,r,z⟩;have o:DA=DA/\Kq kind (s.drop A)=none/\Fr (λi=>i=b) w u4:=⟨rfl,by rw[e3,a6];simp only;rw[b1.2];simp only;rw[r],F7.trans z⟩;exact o
   rintro _ u4 ⟨y,A8,b2,rfl,B8,z⟩;have S:=Y.fr z (by omega);have R8:=R7.fr z (by omega);have O:=O7.frc z B7;refine rS S [.int .i64 (y:Int)] (IZ _) λu5 Z D _=>?_;have Z:Bk u5 bq [.int .i64 (kind:Int),.int .i64 (a:Int),.int .i64 0,.slice V (d.map AS).length W,.int .i64 (x:Int),.int .i64 (y:Int)] 101:=Z;have B9:Hg u5 b s A8:=B8.fr D J;have R9:=R8.fr D I;have O9:=O.frc D S;refine rG Z (⟨kind,a,0,⟨V,(d.map AS).length,W⟩,x,y⟩:RQ) (rE R9 (⟨kind,a,0,⟨V,(d.map AS).length,W⟩,x,y⟩:RQ) λu6 a7 a9 _=>?_);have a7:Bk u6 br (enc (⟨kind,a,0,⟨V,(d.map AS).length,W⟩,x,y⟩:RQ)) 101:=a7;have b4:Hg u6 b s A8:=B9.fr a9 (by omega);have b5:=O9.frc a9 R9;have b6:Fr (λi=>i=b) w u6:=Fr.st' (Fr.st' (F7.trans z) D λi hi=>by omega) a9 λi hi=>by omega
   refine AR (B:=a7) rfl ?_;have o:lL s A b kind w (agg (⟨kind,a,0,⟨V,(d.map AS).length,W⟩,x,y⟩:RQ)) u6:=⟨⟨kind,a,0,d.map AS,x,y⟩,A8,⟨kind,a,0,⟨V,(d.map AS).length,W⟩,x,y⟩,⟨b2.1,by rw[e3,a6];simp only;rw[b1.2];simp only;rw[b2.2]⟩,rfl,⟨rfl,rfl,rfl,b5.mono (by omega),rfl,rfl⟩,b4,b6⟩;exact o
structure MV (w:World) (x:Ay) (d:Bt):Prop where
 id:x.id=d.id
 kind:x.kind=d.kind
 q:UF w x.q d.q
theorem MV.up[Le w w']{x:Ay}{d:Bt}(h:MV w x d):MV w' x d:=⟨h.id,h.kind,h.q.up⟩
def Ux (x:Bt):Prop:=if x.kind=4 then x.q=L3 else if x.kind=3 then x.q.to=0 else x.q.words=[]/\x.q.rad=0/\x.q.most=0
theorem sS{x:Ay}{d:Bt}(V:MV w x d):Sp PP 228 #[agg x] w λv w'=>Ao (Ux d) v/\AC w w':=by
 obtain⟨Q,R,⟨S,T,U,kw,W,X⟩⟩:=V;obtain⟨C,D,⟨r,y,o,⟨E,wn,F⟩,p,x5⟩⟩:=x;obtain⟨di,dk,⟨d1,d2,d3,e,d4,d5⟩⟩:=d;simp only at Q R S T U W X;subst Q R S T U W X;have L:wn=e.length:=kw.len;subst L;have G:agg (⟨C,D,⟨r,y,o,⟨E,e.length,F⟩,p,x5⟩⟩:Ay)=.agg #[.int .i64 C,.int .i64 D,.int .i64 r,.int .i64 y,.int .i64 o,.slice E e.length F,.int .i64 p,.int .i64 x5]:=rfl;rw[G];have H:e.length=0↔e=[]:=XB;refine eN ?_;refine BM λb w1 n1 J=>Cq (ds:=[.int .i64 r,.int .i64 y,.int .i64 o,.slice E e.length F,.int .i64 p,.int .i64 x5]) (B:=J) rfl rfl (Ap λb2 w2 n2 Y=>?_);have a0:=n1.b;have a1:=n1.s;have a4:=n2.b;have a5:=n2.s;refine rS Y [.int .i64 r,.int .i64 y,.int .i64 o,.slice E e.length F,.int .i64 p,.int .i64 x5] (by intro u Z;simp at Z;rcases Z with rfl|rfl|rfl|rfl|rfl|rfl<;>rfl) λw3 l M _=>?_;have l:Bk w3 b2 [.int .i64 r,.int .i64 y,.int .i64 o,.slice E e.length F,.int .i64 p,.int .i64 x5] 101:=l;have s3:AC w w3:=⟨Fr.st (lE w w2) M λi hi=>by omega⟩;have J:=(J.mv (w:=w2)).fr M (by omega);clear Y M;refine rX J rfl (ite (λK=>?_) (λK=>?_))
 ·have h:Ux ⟨C,D,⟨r,y,o,e,p,x5⟩⟩↔(r=0/\y=0/\o=0/\e=[]/\p=0/\x5=0):=by
   unfold Ux L3;simp only;rw[if_pos K];simp only[FX.mk.injEq]
  refine rX l rfl (ite (λh5=>?_) (λh5=>⟨.f λm=>h5 (h.1 m).1,stp⟩));refine rX l rfl (ite (λz=>?_) (λz=>⟨.f λm=>z (h.1 m).2.1,stp⟩));refine rX l rfl (ite (λO=>?_) (λO=>⟨.f λm=>O (h.1 m).2.2.1,stp⟩));refine rX l rfl (ite (λI=>?_) (λI=>⟨.f λm=>I (by simp_all),stp⟩));refine rX l rfl (ite (λA=>?_) (λA=>⟨.f λm=>A (h.1 m).2.2.2.2.1,stp⟩));refine rX l rfl (ite (λc=>?_) (λc=>⟨.f λm=>c (h.1 m).2.2.2.2.2,stp⟩));exact⟨.t (h.2 ⟨h5,z,O,H.1 (by omega),A,c⟩),stp⟩
 refine ite (λh5=>?_) (λh5=>?_)
 ·have h:Ux ⟨C,D,⟨r,y,o,e,p,x5⟩⟩↔o=0:=by unfold Ux;simp only;rw[if_neg K,if_pos h5]
  refine rX l rfl ?_;exact ite (λz=>⟨.t (h.2 z),stp⟩) (λz=>⟨.f λm=>z (h.1 m),stp⟩)
 have h:Ux ⟨C,D,⟨r,y,o,e,p,x5⟩⟩↔(e=[]/\p=0/\x5=0):=by unfold Ux;simp only;rw[if_neg K,if_neg h5]
 refine rX l rfl (ite (λI=>?_) (λI=>⟨.f λm=>I (by simp_all),stp⟩));refine rX l rfl (ite (λA=>?_) (λA=>⟨.f λm=>A (h.1 m).2.1,stp⟩));refine rX l rfl (ite (λc=>?_) (λc=>⟨.f λm=>c (h.1 m).2.2,stp⟩));exact⟨.t (h.2 ⟨H.1 (by omega),A,c⟩),stp⟩
theorem eP{x:Ay}{d:Bt}(V:MV w x d)(E:d.q.words.length<=1000000)(F:∀s∈d.q.words,s.size<=1000000):Sp PP 165 #[agg x] w λv w'=>Ao (Eo d) v/\AC w w':=by
 obtain⟨l,o,y⟩:=V;refine eN ?_;refine BM λb w1 n1 e=>rX e rfl (ite (λC=>?_) (λC=>?_))
 ·have p:d.kind=4\/d.q.kind=d.kind/\CD d.q 200:=.inl (by rw[<-o];exact C);have z:∃u,u=w1:=⟨_,rfl⟩;obtain⟨u,G⟩:=z;subst G;refine rX e rfl (ite (λr=>?_) (λr=>⟨.f λm=>r (by rw[l];exact m.2.1.1),stp⟩));refine rX e rfl (ite (λA=>?_) (λA=>⟨.f λm=>A (by rw[l];exact m.2.1.2),stp⟩));refine Cq (ds:=enc x) (B:=e) rfl (AK.len x) (AA (sS (d:=d) ⟨l,o,y.up (w':=u)⟩) ?_);rintro v H ⟨c,I⟩;refine⟨?_,stp⟩;rcases c with⟨rfl,c⟩|⟨rfl,c⟩
  ·exact .t ⟨p,⟨by rw[<-l];exact r,by omega⟩,c⟩
  ·exact .f λm=>c m.2.2
 refine rX e rfl (rX e rfl ?_);refine ite (λh5=>?_) (λh5=>?_)
 ·refine Cq (ds:=enc x.q) (B:=e) rfl (AK.len x.q) (AA (nE (n:=200) (y.up (w':=w1)) E F) ?_);rintro _ u ⟨⟨D,rfl⟩|⟨D,rfl⟩,J⟩
  ·have p:d.kind=4\/d.q.kind=d.kind/\CD d.q 200:=.inr ⟨by rw[<-o,<-y.kind];exact h5,D⟩;refine iT rfl (rX e rfl (ite (λr=>?_) (λr=>⟨.f λm=>r (by rw[l];exact m.2.1.1),stp⟩)));refine rX e rfl (ite (λA=>?_) (λA=>⟨.f λm=>A (by rw[l];exact m.2.1.2),stp⟩));refine Cq (ds:=enc x) (B:=e) rfl (AK.len x) (AA (sS (d:=d) ⟨l,o,y.up (w':=u)⟩) ?_);rintro v H ⟨c,I⟩;refine⟨?_,stp⟩;rcases c with⟨rfl,c⟩|⟨rfl,c⟩
   ·exact .t ⟨p,⟨by rw[<-l];exact r,by omega⟩,c⟩
   ·exact .f λm=>c m.2.2
  ·refine iF (by decide) ?_
   exact⟨.f λm=>by
    have z:=m.1;rcases z with h|h
    ·exact C (by rw[o];exact h)
    ·exact D h.2,stp⟩
 ·exact⟨.f λm=>by
   have z:=m.1;rcases z with h|h
   ·exact C (by rw[o];exact h)
   ·exact h5 (by rw[y.kind,o];exact h.1),stp⟩
end Go.W
