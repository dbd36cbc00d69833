/-
  Proved here: parts of this claim.
  Conditions: told at each.
-/
import Derived.Shelf.Lays
import Derived.Shelf.Strings.BuilderX
import Derived.KernelRfl
import Derived.Test.YtneehpnmjhjocaaGreatProg
import Derived.Shelf.SlLaysNS
import Derived.Test.YtneehpnmjhjocaaGreatK3
set_option maxHeartbeats 2000000
set_option linter.unusedVariables false
set_option linter.unusedSimpArgs false
namespace Go.W
open Go Go.Proofs
open Enc (enc)
set_option maxRecDepth 10000
variable {B i j k m n n2 n3:Nat} {P:Program} {a a2 a3:Option Addr} {g:GrD} {ps:List Int} {q:QyD} {s:List UInt8} {u u' w' w1 w2:World}
theorem zK7{x:StD}{w:World}:Sp PP 269 #[agg x] w λv w'=>Tells (mayX x) v/\Stp w w':=by
 refine eN ?_;refine rbx λb w1 n1 d=>rG d x.key (rX d rfl (rbuild (cs:=enc x) rfl (bS x λh w2 n2 _ e=>rcall (zCC e (by simp)) ?_)));rintro v l ⟨f,o⟩;have c:Tells (mayX x) v:=by simpa using f
 exact⟨c,stp⟩
def cfY (a b:KeyD):Int:=orI [cmpI a.slot b.slot,cmpI a.dir b.dir,cmpI a.v b.v]
theorem zCM{x y:KeyD}{w:World}:Sp PP 193 #[agg x,agg y] w λv w'=>v=.int .i64 (cfY x y)/\Gw w w':=by
 refine eN ?_;refine rbx λl w1 n1 b=>rbx λo w2 n2 c=>drawRE TBok mixed (λ_=>False) (.one 0 (.one 1 (.one 2 (.one 3 (.one 5 (.one 6 (.one 7 (.one 8 (.one 10 (.one 11 (.one 12 (.one 13 (.one 4 (.one 9 (.one 14 (.one 15 (.one 16 (.one 17 .nil)))))))))))))))))) (by kernel_rfl) λp r f=>?_;refine tX b rfl nf (tX c rfl nf ?_);refine tX b rfl nf (tX c rfl nf ?_);refine tX b rfl nf (tX c rfl nf ?_);refine rcall zAc ?_;rintro v t ⟨rfl,rfl⟩;refine⟨Fr.refl _ _,?_⟩;refine rcall zAc ?_;rintro v z ⟨rfl,rfl⟩;refine⟨Fr.refl _ _,?_⟩;refine rcall zAc ?_;rintro v A ⟨rfl,rfl⟩;refine⟨Fr.refl _ _,?_⟩;refine rbsN [cmpI x.slot y.slot,cmpI x.dir y.dir,cmpI x.v y.v] rfl (vs:=[.int .i64 (cmpI x.slot y.slot),.int .i64 (cmpI x.dir y.dir),.int .i64 (cmpI x.v y.v)]) rfl rfl (by decide) λC D d h=>⟨d.e,?_⟩;refine rcall (zBT h (by simp)) ?_;rintro v E ⟨rfl,rfl⟩;refine⟨Fr.refl _ _,?_⟩;exact⟨rfl,n1.gw.trans (n2.gw.trans (f.trans d.gw))⟩
theorem zNU{x y:StD}{w:World}:Sp PP 192 #[agg x,agg y] w λv w'=>v=.int .i64 (cfM x y)/\Gw w w':=by
 refine eN ?_;refine rbx λe w1 n1 b=>rbx λf w2 n2 c=>rG b x.key (rG c y.key (rcall (zCM (x:=x.key) (y:=y.key)) ?_));rintro _ h ⟨rfl,d⟩;exact⟨rfl,n1.gw.trans (n2.gw.trans d)⟩
theorem zIE{c:Nat}{S:List StD}{m:Int}{w:World}(h:SlF w (.slice a n c) S)(hn:S.length<=100000)(H:SRis S)(I:∀x∈S,mayX x/\x.key.v<m):
  Sp PP 185 #[.slice a n c,.int .i64 m] w λv w'=>v=.bool true/\Stp w w':=by
 have f:=h.len;obtain rfl:=f;refine eN ?_;refine cN 9 [4,5,6] 9 S.length (λk u=>Stp w u) stp ?_;rintro k g u hk J;refine ite (λhlt=>?_) (λK=>?_)
 ·have d:k<S.length:=by omega
  refine rix (h.up (w':=u)) (x:=S[k]) (by simp) λb4 o4 L=>rloadA L rfl (ral λM N C O=>?_);have Q:=C.b;have R:=C.s;refine rE O (S[k]) λD l T _=>?_;have l:Bk D M (enc S[k]) 222:=l;have s6:Stp u D:=⟨Fr.st (lE u N) T λi hi=>by omega⟩;have f:=I _ (Qa d);obtain⟨p,U⟩:=f;refine dQ 26 λu7 e7=>tG l (S[k]) nf (rcall zK7 ?_);rintro _ r ⟨⟨rfl,_⟩|⟨rfl,V⟩,W⟩
  case' inr=>exact absurd p V
  refine⟨W.e,?_⟩;refine tX l rfl nf (ite (λE=>absurd E (by omega)) (λE=>?_));refine ite (λt=>?_) (λt=>?_)
  ·have f:∃j,k=j+1:=⟨k - 1,by omega⟩;obtain⟨j,rfl⟩:=f;have z:j<S.length:=by omega
   refine rarE (y:=(j:Int)) (by omega) (by omega) (tix (i:=j) (h.up (w':=r)) (x:=S[j]) (by simp) λX Y Z _=>?_);have A:At r X Y (enc S[j].key):=Z.sub 0 3;refine tloadA A rfl nf (tG l (S[j+1].key) nf (rcall (zCM (x:=S[j].key) (y:=S[j+1].key)) ?_));rintro _ u9 ⟨rfl,g9⟩;have F:=g9.ext;refine⟨F,?_⟩;have s9:Stp r u9:=⟨F⟩;have G:cfY S[j].key S[j+1].key<0:=(zF1 S[j] S[j+1]).2 (QX.1 H j (j+1) z d (by omega));refine ite (λo=>absurd o (by omega)) (λo=>?_);exact rA ⟨rfl,d,stp⟩
  ·refine rA ⟨rfl,d,stp⟩
 ·exact⟨rfl,J⟩
structure QyV (w:World) (x:RQ) (q:QyD):Prop where
 kind:x.kind=q.kind
 frm:x.frm=q.frm
 to:x.to=q.to
 ws:SlF w x.words.v q.words
 rad:x.rad=q.rad
 most:x.most=q.most
theorem QyV.up{w:World}[Le w w']{x:RQ}(h:QyV w x q):QyV w' x q:=⟨h.kind,h.frm,h.to,h.ws.up,h.rad,h.most⟩
theorem zDt{l:List Nat}(h:k<l.length):(intsN l)[k]? = some (l[k]:Int):=by simp [intsN,h]
theorem zDu(l:List Nat):(intsN l).length=l.length:=by simp [intsN]
theorem zCW(b:GrIs g)(dir:Int)(v:Nat):(nbL g dir v).length<=2000:=by
 have:=b.ne;unfold nbL;split
 ·rw [Qr];exact Qw (Qv _ _) this
 ·rw [Qr];exact Qw (Qv _ _) this
def sendL (x:StD) (l:List Nat):List StD:=l.map λv:Nat=>⟨⟨x.key.slot,x.key.dir,v⟩,x.d+1⟩
theorem zDD(x:StD){l:List Nat}(h:k<l.length):sendL x (l.take (k+1))=sendL x (l.take k)++[⟨⟨x.key.slot,x.key.dir,l[k]⟩,x.d+1⟩]:=by
 unfold sendL;rw [take_add h,QB];rfl
theorem zKI{xq:RQ}{E:RRow}{r:List EdN}{x:StD}{w:World}(Y:GrIs g)(R:RwF w E g r)(C:xq.kind=q.kind/\xq.rad=q.rad)(hx:mayX x)(hd:x.key.dir=0\/x.key.dir=1)(hv:x.key.v<g.n):
  Sp PP 274 #[agg xq,agg E,agg x] w λv w'=>(∃Z,v=.tuple #[Z,.int .i64 0]/\Own w.heap.size 211 w' Z (nextL g q x))/\Stp w w':=by
 obtain⟨⟨a1,a4,a5,a6,a7⟩,a8,a9⟩:=hx;have t:∃b:Nat,x.key.v=(b:Int):=⟨x.key.v.toNat,by omega⟩;obtain⟨b,z⟩:=t;have a0:b<g.n:=by omega
 refine eN ?_;refine rbx λbq w1 n1 B1=>rbx λbr w2 n2 B2=>rbx λbx w3 n3 o=>rX o rfl ?_;have b0:=zCW Y x.key.dir b
 have D:∀(u:World),Stp w u->Sp PP (if x.key.dir=1 then 345 else 344) #[agg E,.int .i64 (b:Int)] u λrv w'=>(∃Z,rv=.tuple #[Z,.bool true]/\Own u.heap.size 3 w' Z (intsN (nbL g x.key.dir b)))/\Stp u w':=λu L=>by
  rcases hd with h|h
  ·rw [h,if_neg (by decide)];exact zMg Y (R.up (w':=u)) a0
  ·rw [h,if_pos rfl];exact zNO Y (R.up (w':=u)) a0
 have b1:¬(x.key.dir≠0/\x.key.dir≠1):=by omega
 refine ite (λh1=>?_) (λh1=>?_)
 ·refine rG B2 E (rld (B:=o) (v:=.int .i64 (b:Int)) (by rw [<-z];rfl) ?_);have H:=D w3 stp;rw [if_pos h1] at H;refine rcall H ?_;rintro _ w4 ⟨⟨l9,rfl,O4⟩,e4⟩;refine rG B2 E (rcall (zBL Y (R.up (w':=w4))) ?_);rintro _ f ⟨rfl,e5⟩;have A:=O4.up (w':=f);refine rX o rfl (ite (λX=>?_) (λX=>absurd X (by omega)));refine rX o rfl (iF (· h1) (rX o rfl (iF (by omega) (rX o rfl (iF (by omega) (rX B1 rfl (ite (λF=>?_) (λF=>?_))))))))
  ·refine rX o rfl (rX B1 rfl ?_);refine ite (λI=>?_) (λI=>?_)
   ·have p:nextL g q x=[]:=by unfold nextL;rw [if_pos ⟨by rw [<-C.1];exact F,by rw [<-C.2];exact I⟩]
    have ON:Own w.heap.size 211 f (.slice none 0 0) (nextL g q x):=by rw [p];exact Own.nil _ _ _
    exact⟨⟨_,rfl,ON⟩,stp⟩
   ·have y:¬(q.kind=3/\q.rad<=x.d):=λh=>I (by rw [C.2];exact h.2)
    have p:nextL g q x=sendL x (nbL g x.key.dir b):=by
     unfold nextL sendL;rw [if_neg y,z];rfl
    have il:=zDu (nbL g x.key.dir b);have t:=A.shape;obtain⟨la,lc,rfl⟩:=t;have J:=A.sl;refine cO 69 [13] 11 69 (nbL g x.key.dir b).length (λk v u=>Own f.heap.size 211 u v (sendL x ((nbL g x.key.dir b).take k))/\Stp f u) ⟨Own.nil _ _ _,stp⟩ ?_;rintro k K G u M ⟨O,su⟩;refine ite (λhlt=>?_) (λN=>?_)
    ·have c:k<(nbL g x.key.dir b).length:=by omega
     refine rix (J.up (w':=u)) (i:=k) (x:=((nbL g x.key.dir b)[k]:Int)) (zDt c) λb6 o6 Q=>rload1 (Q.cell0 rfl) (rX o rfl (rX o rfl ?_));refine rbuild (cs:=enc (⟨x.key.slot,x.key.dir,(nbL g x.key.dir b)[k]⟩:KeyD)) rfl (rX o rfl (rA (rbuild (cs:=enc (⟨⟨x.key.slot,x.key.dir,(nbL g x.key.dir b)[k]⟩,x.d+1⟩:StD)) rfl (bS (⟨⟨x.key.slot,x.key.dir,(nbL g x.key.dir b)[k]⟩,x.d+1⟩:StD) λb7 S n7 _ T=>rapp1 (u:=f) ⟨rfl,rfl⟩ (O.up (w':=S)) T (by unfold sendL;simp;omega) λU V W f8 s8=>?_))));have e:Own f.heap.size 211 V U (sendL x ((nbL g x.key.dir b).take (k+1))):=by rw [zDD x c];exact W
     exact rA ⟨rfl,c,e,stp⟩
    ·have t:k=(nbL g x.key.dir b).length:=by omega
     obtain rfl:=t;have e:Own w.heap.size 211 u K (nextL g q x):=by rw [p,<-Qg (l:=nbL g x.key.dir b)];exact O.mono (lz w f)
     exact⟨⟨_,rfl,e⟩,stp⟩
  ·have y:¬(q.kind=3/\q.rad<=x.d):=λh=>F (by rw [C.1];exact h.1)
   have p:nextL g q x=sendL x (nbL g x.key.dir b):=by
    unfold nextL sendL;rw [if_neg y,z];rfl
   have il:=zDu (nbL g x.key.dir b);have t:=A.shape;obtain⟨la,lc,rfl⟩:=t;have J:=A.sl;refine cO 69 [13] 11 69 (nbL g x.key.dir b).length (λk v u=>Own f.heap.size 211 u v (sendL x ((nbL g x.key.dir b).take k))/\Stp f u) ⟨Own.nil _ _ _,stp⟩ ?_;rintro k K G u M ⟨O,su⟩;refine ite (λhlt=>?_) (λN=>?_)
   ·have c:k<(nbL g x.key.dir b).length:=by omega
    refine rix (J.up (w':=u)) (i:=k) (x:=((nbL g x.key.dir b)[k]:Int)) (zDt c) λb6 o6 Q=>rload1 (Q.cell0 rfl) (rX o rfl (rX o rfl ?_));refine rbuild (cs:=enc (⟨x.key.slot,x.key.dir,(nbL g x.key.dir b)[k]⟩:KeyD)) rfl (rX o rfl (rA (rbuild (cs:=enc (⟨⟨x.key.slot,x.key.dir,(nbL g x.key.dir b)[k]⟩,x.d+1⟩:StD)) rfl (bS (⟨⟨x.key.slot,x.key.dir,(nbL g x.key.dir b)[k]⟩,x.d+1⟩:StD) λb7 S n7 _ T=>rapp1 (u:=f) ⟨rfl,rfl⟩ (O.up (w':=S)) T (by unfold sendL;simp;omega) λU V W f8 s8=>?_))));have e:Own f.heap.size 211 V U (sendL x ((nbL g x.key.dir b).take (k+1))):=by rw [zDD x c];exact W
    exact rA ⟨rfl,c,e,stp⟩
   ·have t:k=(nbL g x.key.dir b).length:=by omega
    obtain rfl:=t;have e:Own w.heap.size 211 u K (nextL g q x):=by rw [p,<-Qg (l:=nbL g x.key.dir b)];exact O.mono (lz w f)
    exact⟨⟨_,rfl,e⟩,stp⟩
 ·refine rG B2 E (rld (B:=o) (v:=.int .i64 (b:Int)) (by rw [<-z];rfl) ?_);have H:=D w3 stp;rw [if_neg h1] at H;refine rcall H ?_;rintro _ w4 ⟨⟨l9,rfl,O4⟩,e4⟩;refine rG B2 E (rcall (zBL Y (R.up (w':=w4))) ?_);rintro _ f ⟨rfl,e5⟩;have A:=O4.up (w':=f);refine rX o rfl (iF (by omega) (rX o rfl (iF (by omega) (rX o rfl (iF (by omega) (rX B1 rfl (ite (λF=>?_) (λF=>?_))))))))
  ·refine rX o rfl (rX B1 rfl ?_);refine ite (λI=>?_) (λI=>?_)
   ·have p:nextL g q x=[]:=by unfold nextL;rw [if_pos ⟨by rw [<-C.1];exact F,by rw [<-C.2];exact I⟩]
    have ON:Own w.heap.size 211 f (.slice none 0 0) (nextL g q x):=by rw [p];exact Own.nil _ _ _
    exact⟨⟨_,rfl,ON⟩,stp⟩
   ·have y:¬(q.kind=3/\q.rad<=x.d):=λh=>I (by rw [C.2];exact h.2)
    have p:nextL g q x=sendL x (nbL g x.key.dir b):=by
     unfold nextL sendL;rw [if_neg y,z];rfl
    have il:=zDu (nbL g x.key.dir b);have t:=A.shape;obtain⟨la,lc,rfl⟩:=t;have J:=A.sl;refine cO 69 [13] 11 69 (nbL g x.key.dir b).length (λk v u=>Own f.heap.size 211 u v (sendL x ((nbL g x.key.dir b).take k))/\Stp f u) ⟨Own.nil _ _ _,stp⟩ ?_;rintro k K G u M ⟨O,su⟩;refine ite (λhlt=>?_) (λN=>?_)
    ·have c:k<(nbL g x.key.dir b).length:=by omega
     refine rix (J.up (w':=u)) (i:=k) (x:=((nbL g x.key.dir b)[k]:Int)) (zDt c) λb6 o6 Q=>rload1 (Q.cell0 rfl) (rX o rfl (rX o rfl ?_));refine rbuild (cs:=enc (⟨x.key.slot,x.key.dir,(nbL g x.key.dir b)[k]⟩:KeyD)) rfl (rX o rfl (rA (rbuild (cs:=enc (⟨⟨x.key.slot,x.key.dir,(nbL g x.key.dir b)[k]⟩,x.d+1⟩:StD)) rfl (bS (⟨⟨x.key.slot,x.key.dir,(nbL g x.key.dir b)[k]⟩,x.d+1⟩:StD) λb7 S n7 _ T=>rapp1 (u:=f) ⟨rfl,rfl⟩ (O.up (w':=S)) T (by unfold sendL;simp;omega) λU V W f8 s8=>?_))));have e:Own f.heap.size 211 V U (sendL x ((nbL g x.key.dir b).take (k+1))):=by rw [zDD x c];exact W
     exact rA ⟨rfl,c,e,stp⟩
    ·have t:k=(nbL g x.key.dir b).length:=by omega
     obtain rfl:=t;have e:Own w.heap.size 211 u K (nextL g q x):=by rw [p,<-Qg (l:=nbL g x.key.dir b)];exact O.mono (lz w f)
     exact⟨⟨_,rfl,e⟩,stp⟩
  ·have y:¬(q.kind=3/\q.rad<=x.d):=λh=>F (by rw [C.1];exact h.1)
   have p:nextL g q x=sendL x (nbL g x.key.dir b):=by
    unfold nextL sendL;rw [if_neg y,z];rfl
   have il:=zDu (nbL g x.key.dir b);have t:=A.shape;obtain⟨la,lc,rfl⟩:=t;have J:=A.sl;refine cO 69 [13] 11 69 (nbL g x.key.dir b).length (λk v u=>Own f.heap.size 211 u v (sendL x ((nbL g x.key.dir b).take k))/\Stp f u) ⟨Own.nil _ _ _,stp⟩ ?_;rintro k K G u M ⟨O,su⟩;refine ite (λhlt=>?_) (λN=>?_)
   ·have c:k<(nbL g x.key.dir b).length:=by omega
    refine rix (J.up (w':=u)) (i:=k) (x:=((nbL g x.key.dir b)[k]:Int)) (zDt c) λb6 o6 Q=>rload1 (Q.cell0 rfl) (rX o rfl (rX o rfl ?_));refine rbuild (cs:=enc (⟨x.key.slot,x.key.dir,(nbL g x.key.dir b)[k]⟩:KeyD)) rfl (rX o rfl (rA (rbuild (cs:=enc (⟨⟨x.key.slot,x.key.dir,(nbL g x.key.dir b)[k]⟩,x.d+1⟩:StD)) rfl (bS (⟨⟨x.key.slot,x.key.dir,(nbL g x.key.dir b)[k]⟩,x.d+1⟩:StD) λb7 S n7 _ T=>rapp1 (u:=f) ⟨rfl,rfl⟩ (O.up (w':=S)) T (by unfold sendL;simp;omega) λU V W f8 s8=>?_))));have e:Own f.heap.size 211 V U (sendL x ((nbL g x.key.dir b).take (k+1))):=by rw [zDD x c];exact W
    exact rA ⟨rfl,c,e,stp⟩
   ·have t:k=(nbL g x.key.dir b).length:=by omega
    obtain rfl:=t;have e:Own w.heap.size 211 u K (nextL g q x):=by rw [p,<-Qg (l:=nbL g x.key.dir b)];exact O.mono (lz w f)
    exact⟨⟨_,rfl,e⟩,stp⟩
abbrev wkX (B b1 bw:Nat) (v:Value) (ne:Prop):Nat->Prop:=λi=>i<B\/i=b1\/i=bw\/(ne/\Value.blk v=some i)
structure WrkD (w0:World) (xq:RQ) (xr:RRow) (L:List StD) (a:Option Addr) (c b1 bw:Nat) (u:World):Prop where
 k0:Kp (λi=>i<w0.heap.size) w0 u
 b:Bk u b1 [.pointer (some ⟨bw,0,none⟩)] 279
 w:Bk u bw (enc xq++enc xr++[.slice a L.length c,.int .i64 0]) 282
 l:SlF u (.slice a L.length c) L
theorem WrkD.kp{w0:World}{xq:RQ}{p:RRow}{L:List StD}{c d e:Nat}(h:WrkD w0 xq p L a c d e u)(k:Kp (wkX w0.heap.size d e (.slice a L.length c) (L≠[])) u u'):WrkD w0 xq p L a c d e u':=
 ⟨h.k0.trans ⟨λi o r t f=>k.k i o r t (.inl f)⟩,h.b.kp k (.inr (.inl rfl)),h.w.kp k (.inr (.inr (.inl rfl))),h.l.kp k λv b f=>.inr (.inr (.inr ⟨v,f⟩))⟩
theorem SlF.kp0{α:Type}[Enc α]{w0:World}{v:Value}{l:List α}(h:SlF w0 v l)(k:Kp (λi=>i<w0.heap.size) w0 u):SlF u v l:=
 h.kp k λd b e=>by obtain⟨g,c,f⟩:=h.lt d;rw [e] at c;cases c;exact f
theorem RwF.kp0{w0:World}{x:RRow}{r:List EdN}(h:RwF w0 x g r)(k:Kp (λi=>i<w0.heap.size) w0 u):RwF u x g r:=
 ⟨h.rev',h.off.kp0 k,h.to.kp0 k,h.rof.kp0 k,h.rev.kp0 k⟩
def OkX (g:GrD) (x:StD):Prop:=mayX x/\x.key.v<g.n
theorem zPL{r:List EdN}{w0:World}{xq:RQ}{G:RRow}{L:List StD}{c H N:Nat}(hg:GrIs g)(R:RwF w0 G g r)(hk:xq.kind=q.kind/\xq.rad=q.rad)(hL:∀x∈L,OkX g x)(hn:L.length<=100000):
  SeqG PP 273 [] [.pointer (some ⟨H,0,none⟩)] Ext (Kp (wkX w0.heap.size H N (.slice a L.length c) (L≠[]))) (WrkD w0 xq G L a c H N)
  (λd x u=>∃h:d.length<L.length,∃v,x=[agg L[d.length],v]/\Own 0 211 u v (nextL g q L[d.length])) (λd=>d.length=L.length):=by
 refine⟨λy J Jx w hJ a0 hY h0 O=>?_⟩;refine eN ?_;refine rX O.b rfl (rX O.w rfl (cN 13 [4,5,6,7] 13 L.length (λk u=>∃d,d.length=k/\J d u/\WrkD w0 xq G L a c H N u) ⟨[],rfl,h0,O⟩ ?_));rintro k g' u a1 ⟨d,o,Z,D⟩;refine ite (λhlt=>?_) (λa4=>?_)
 ·have p:k<L.length:=by omega
  have⟨t,Q⟩:=hL _ (Qa p);refine rix D.l (x:=L[k]) (by simp) λb4 o4 A4=>rloadA A4 rfl (ral λb5 u5 n5 z5=>?_);have a5:=n5.b;have a6:=n5.s;refine rE z5 (L[k]) λI K f6 _=>?_;have K:Bk I b5 (enc L[k]) 211:=K;have s6:Stp u I:=⟨Fr.st (lE u u5) f6 λi hi=>by omega⟩;refine rG K (L[k].key) (rX K rfl ?_);refine rbuild (cs:=enc L[k]) rfl (ral λb7 u7 n7 z7=>?_);have a7:=n7.b;have a8:=n7.s;refine rE z7 (L[k]) λS M f8 _=>?_;have M:Bk S b7 (enc L[k]) 222:=M;have s8:Stp I S:=⟨Fr.st (lE I u7) f8 λi hi=>by omega⟩;have z:=D.kp (.of_ext (lE u S));clear z5 f6 z7 f8;refine dQ 15 λu9 e9=>tX z.b rfl nf (tG z.w xq nf (tX z.b rfl nf (tG z.w G nf (tG M (L[k]) nf ?_))));have D9:=z.kp (.of_ext e9.e);refine rcall (zKI (q:=q) hg (R.kp0 D9.k0) hk t (by have:=t.1.2.2.1;exact this) Q) ?_;rintro _ f ⟨⟨T,rfl,U⟩,V⟩;refine⟨V.e,?_⟩;refine iF (· rfl) (rG M (L[k]) ?_);have A:=hJ _ _ _ Z (lE u f);have W:=D9.kp (.of_ext (lE u9 f));have X:d.length<L.length:=by omega
  have C:Own 0 211 f T (nextL g q L[d.length]):=by have:=U.mono (XE _);simpa only [o] using this
  have Y:agg L[k]=agg L[d.length]:=by simp only [o]
  refine ryield (vs:=[agg L[k],T]) rfl rfl rfl rfl (hY d f _ ⟨X,T,by rw [Y],C⟩ A) ?_;rintro bb a9 ⟨⟨rfl,E⟩|⟨rfl,F⟩,hK⟩
  ·exact rA ⟨rfl,p,_,by simp [o],E,W.kp hK⟩
  ·exact .inr F
 ·exact .inl ⟨d,by omega,Z⟩
theorem zEE{c:Nat}{w:World}:Sp PP 190 #[.pointer (some ⟨c,0,none⟩)] w λv w'=>(∃b,v=.func (.func 273) #[] #[.pointer (some ⟨b,0,none⟩)]/\Nx w w' b/\Bk w' b [.pointer (some ⟨c,0,none⟩)] 279):=by
 refine eN ?_;refine rbx λb w1 n1 d=>?_;exact⟨b,rfl,n1,d⟩
theorem zNT{x:StD}{b:Nat}{n:Int}{w:World}(N:Bk w b [.int .i64 n] 3):Sp PP 180 #[agg x,.pointer (some ⟨b,0,none⟩)] w λv w'=>Tells (x.key.v≥n) v/\Stp w w':=by
 refine eN ?_;refine rbx λd w1 n1 c=>rX c rfl (rX N rfl ?_);exact ite (λh=>⟨.t h,stp⟩) (λh=>⟨.f h,stp⟩)
theorem zNz{α:Type}(f:α->Int)(l:List α)(W:Nat):(((List.range W).flatMap λp:Nat=>l.filter λx=>decide (f x=(p:Int)))).Perm (l.filter λx=>decide (0<=f x/\f x<W)):=by
 induction W with
 |zero =>
  have:(l.filter λx=>decide (0<=f x/\f x<((0:Nat):Int)))=[]:=JA.2 λx _=>by simp <;> omega
  rw [this];exact .refl _
 |succ W b =>
  rw [Jm,Jl];refine(b.append_right _).trans ?_;clear b;simp only [JV,XM,QE]
  induction l with
  |nil=>exact .refl _
  |cons x r b =>
   by_cases e:0<=f x/\f x<(W:Int)
   ·have d:¬f x=(W:Int):=by omega
    have c:0<=f x/\f x<((W+1:Nat):Int):=by omega
    rw [JL (by simpa using e),Jw (by simpa using d),JL (by simpa using c)];exact b.cons x
   ·by_cases d:f x=(W:Int)
    ·have c:0<=f x/\f x<((W+1:Nat):Int):=by omega
     rw [Jw (by simpa using e),JL (by simpa using d),JL (by simpa using c)];exact List.perm_middle.trans (b.cons x)
    ·have c:¬(0<=f x/\f x<((W+1:Nat):Int)):=by omega
     rw [Jw (by simpa using e),Jw (by simpa using d),Jw (by simpa using c)];exact b
def homV (W:Nat) (v:Int):Value:=if 0<=v/\v<=1000000/\1<=W/\W<=16 then .tuple #[.int .i64 (homW W v),.bool true] else .tuple #[.int .i64 0,.bool false]
theorem zIn{W:Nat}(h:1<=W)(v:Int):∃p:Nat,homW W v=p/\p<W:=by
 have b:=Vs ((v*40503+12345) % 65536) (show (W:Int)≠0 by omega);have c:=VT ((v*40503+12345) % 65536) (show (0:Int)<W by omega);exact⟨(homW W v).toNat,by unfold homW;omega,by unfold homW;omega⟩
theorem zCD{v:Int}{W:Nat}{w:World}:Sp PP 198 #[.int .i64 v,.int .i64 (W:Int)] w λr w'=>r=homV W v/\w'=w:=by
 have b:¬(0<=v/\v<=1000000/\1<=W/\W<=16)->homV W v=.tuple #[.int .i64 0,.bool false]:=λh=>by unfold homV;rw [if_neg h]
 refine eN ?_;refine ite (λh=>⟨(b (by omega)).symm,rfl⟩) (λc=>?_);refine ite (λh=>⟨(b (by omega)).symm,rfl⟩) (λd=>?_);refine ite (λh=>⟨(b (by omega)).symm,rfl⟩) (λf=>?_);refine ite (λh=>⟨(b (by omega)).symm,rfl⟩) (λl=>?_);have e:homV W v=.tuple #[.int .i64 ((v*40503+12345) % 65536 % W),.bool true]:=by unfold homV homW;rw [if_pos (by omega)]
 rw [e];refine rA (rA (rrem (by omega) (by omega) (rrem (Vs _ (by decide)) (by omega) ?_)));exact⟨rfl,rfl⟩
structure RwM where
 s:SV
 l:List StD
instance:Enc RwM:=⟨1,λx=>[.slice x.s.a x.s.n x.s.c],λ_=>rfl,by intro x u hu;simp at hu;subst hu;rfl,by decide⟩
instance:Inhabited RwM:=⟨⟨⟨none,0,0⟩,[]⟩⟩
abbrev RwM.v (x:RwM):Value:=.slice x.s.a x.s.n x.s.c
theorem zMN{w:World}{v:Value}{l:List StD}(h:SlF w v l):∃x:RwM,v=x.v/\x.l=l:=by
 have b:=h.shape;obtain⟨a,c,rfl⟩:=b;exact⟨⟨⟨a,l.length,c⟩,l⟩,rfl,rfl⟩
structure RowsM (B:Nat) (w:World) (v:Value) (M:List RwM):Prop where
 top:Own B 110 w v M
 rows:∀x∈M,Own B 211 w x.v x.l
 apart:∀i j (hi:i<M.length) (hj:j<M.length),i≠j->∀g,Value.blk M[i].v=some g->Value.blk M[j].v≠some g
 lt:∀x∈M,∀g,Value.blk x.v=some g->g<w.heap.size
theorem RowsM.up{w:World}[Le w w']{v:Value}{M:List RwM}(R:RowsM B w v M):RowsM B w' v M:=
 ⟨R.top.up,λx b=>(R.rows x b).up,R.apart,λx b g c=>QJ (R.lt x b g c) (lz w w')⟩
theorem RowsM.put{w:World}{v:Value}{M:List RwM}{x:RwM}(R:RowsM B w v M)(hi:i<M.length)(E:Own B 211 w1 x.v x.l)(C:Fr (ownD B M[i].v) w w1)
  (D:Value.blk x.v=Value.blk M[i].v\/Value.blk x.v=some w.heap.size)(o:∀g,Value.blk x.v=some g->g<w1.heap.size)(F:Own B 110 w2 v (M.set i x))(e:FrT B [110] w1 w2):RowsM B w2 v (M.set i x):=by
 have G:M[i]∈M:=Qa hi;refine⟨F,λy r=>?_,λp q d f t g c b=>?_,λy r g c=>?_⟩
 ·have z:=QI.1 r;obtain⟨p,d,rfl⟩:=z;rw [Jc] at d;rw [Xh];split
  ·exact E.kept e (by decide)
  ·rename_i A;have:=(R.rows _ (Qa d)).fr C λg _ c hd=>R.apart i p hi d A g hd.2.1 c;exact this.kept e (by decide)
 ·rw [Jc] at d f;rw [Xh] at c b;split at c
  ·rename_i H;rw [if_neg (by omega)] at b;rcases D with h|h
   ·rw [h] at c;exact R.apart i q hi f (by omega) g c b
   ·rw [h] at c;cases c;exact absurd (R.lt _ (Qa f) _ b) (Yc _)
  ·split at b
   ·rcases D with h|h
    ·rw [h] at b;exact R.apart i p hi d (by omega) g b c
    ·rw [h] at b;cases b;exact absurd (R.lt _ (Qa d) _ c) (Yc _)
   ·exact R.apart p q d f t g c b
 ·have z:=QI.1 r;obtain⟨p,d,rfl⟩:=z;rw [Jc] at d;rw [Xh] at c;split at c
  ·exact QJ (o g c) e.size
  ·exact QJ (R.lt _ (Qa d) g c) (Qw C.size e.size)
theorem RowsM.zero{w:World}{v:Value}{K:Nat}(O:Own B 110 w v (List.replicate K (default:RwM))):RowsM B w v (List.replicate K (default:RwM)):=by
 refine⟨O,λx c=>?_,λi j hi d _ g b=>?_,λx c g b=>?_⟩
 ·rw [List.eq_of_mem_replicate c];exact Own.nil _ _ _
 ·rw [List.getElem_replicate] at b;cases b
 ·rw [List.eq_of_mem_replicate c] at b;cases b
def boxL (W:Nat) (l:List StD) (p:Nat):List StD:=l.filter λx=>decide (homW W x.key.v=(p:Int))
theorem zIX(W:Nat)(l:List StD)(p:Nat)(x:StD):boxL W (l++[x]) p=boxL W l p++if homW W x.key.v=(p:Int) then [x] else []:=by
 unfold boxL;rw [QV];congr 1;by_cases h:homW W x.key.v=(p:Int) <;> simp [h]
theorem zJ8(W:Nat)(l:List StD)(p:Nat):(boxL W l p).length<=l.length:=Qv _ _
theorem zJE{c:Nat}{l:List StD}{W:Nat}{w:World}(h:SlF w (.slice a n c) l)(hn:l.length<=100000)(hW:1<=W/\W<=16)(hm:∀x∈l,mayX x):
  Sp PP 183 #[.slice a n c,.int .i64 (W:Int)] w λr w'=>(∃v M,r=.tuple #[v,.int .i64 0]/\RowsM w.heap.size w' v M/\M.length=W/\∀p (X:p<M.length),M[p].l=boxL W l p)/\Stp w w':=by
 have y:=h.len;obtain rfl:=y;refine eN ?_;refine rcall (zCD (v:=0) (W:=W)) ?_;rintro _ w1 ⟨rfl,rfl⟩;have e0:homV W 0=.tuple #[.int .i64 (homW W 0),.bool true]:=if_pos ⟨by omega,by omega,hW⟩;rw [e0];refine rcall (zCC (h.up (w':=w1)) (by omega)) ?_;rintro _ w2 ⟨⟨rfl,_⟩|⟨rfl,h2⟩,e2⟩
 case' inr=>exact absurd hm h2
 refine rmk (default:RwM) rfl rfl (by omega) λg w3 O3 s3 a7=>?_;have R3:=RowsM.zero O3;have z2:=e2.e.size
 refine cN 29 [4,5,10,11,12] 29 l.length (λi u=>(∃M,RowsM w2.heap.size u (.slice (some ⟨g,0,none⟩) W W) M/\M.length=W/\∀p (X:p<M.length),M[p].l=boxL W (l.take i) p)/\Stp w2 u)
  ⟨⟨_,R3,by simp,λp X=>by rw [List.getElem_replicate];rfl⟩,stp⟩ ?_
 rintro i g2 u hi ⟨⟨M,R,hM,f⟩,e⟩;have a8:=lz w2 u;refine ite (λhlt=>?_) (λa9=>?_)
 ·have z:i<l.length:=by omega
  refine rix (h.up (w':=u)) (x:=l[i]) (by simp) λb4 o4 A4=>rloadA A4 rfl (ral λb5 u5 n5 z5=>?_);have a1:=n5.b;have b0:=n5.s;refine rE z5 (l[i]) λu6 Y f6 _=>?_;have Y:Bk u6 b5 (enc l[i]) 211:=Y;have s6:Stp u u6:=⟨Fr.st (lE u u5) f6 λi hi=>by omega⟩;have F:=hm _ (Qa z);have y:=zIn hW.1 l[i].key.v;obtain⟨p,X,b1⟩:=y;refine rX Y rfl (rcall (zCD (v:=l[i].key.v) (W:=W)) ?_);rintro _ u7 ⟨rfl,rfl⟩
  have e7:homV W l[i].key.v=.tuple #[.int .i64 (p:Int),.bool true]:=by
   rw [<-X];exact if_pos ⟨F.1.2.2.2.1,by have:=F.1.2.2.2.2;omega,hW⟩
  rw [e7];have d:p<M.length:=by omega
  have R6:=R.up (w':=u7)
  have b2:M[p].l.length<=l.length:=by
   rw [f p d];have:=zJ8 W (l.take i) p;rw [Qm] at this;omega
  have b3:=Y.lt;refine dT (λi=>i≠b5) (oL [0,1,2,3,4,6] (.duo 5 (oL [7,8,9,10] .nil) 7 (.lone 5 (oL [8,9,10] .nil)))) λw8 e8=>?_;have R8:=R6.up (w':=w8);refine tixO rfl R8.top (x:=M[p]) (by simp) λg9 H _ A9=>tG Y (l[i]) (by simp) ?_;have b6:=lz u7 w8;have b7:=lz w2 w8;have b8:u.heap.size=b5:=a1.symm;have Z:∀g,Value.blk M[p].v=some g->g<u.heap.size:=R.lt _ (Qa d)
  have a0:g9≠b5:=by
   have q:=R.top.lt (by intro h0;rw [h0] at d;simp at d);obtain⟨g',G,_,h2⟩:=q;rw [H] at G;cases G;omega
  refine⟨?_,?_⟩
  ·refine rload1 (A9.cell0 rfl) ⟨Fr.refl _ _,?_⟩;refine rbs1 l[i] rfl rfl (by decide) λa4 t I _ J=>⟨Fr.fr I.e,?_⟩;have o:=R8.up (w':=t)
   refine rappD ⟨rfl,rfl⟩ (o.rows _ (Qa d)) J (by simp) (by have:=lz w2 t;omega) (by simp;omega) λv7 a5 D E K=>⟨E.mono λj a6 L=>by
    have:=Z j L.2.1;omega,?_⟩
   have N:M[p].l++[l[i]]≠[]:=by simp
   have y:=D.lt N;obtain⟨g7,O,_,A⟩:=y;have y:=zMN D.sl;obtain⟨x,rfl,Q⟩:=y;have S:=o.top.kept ((o.rows _ (Qa d)).wrote E (Qe _) (Qc.2 rfl)) (by decide);refine tixO rfl S (x:=M[p]) (by simp) λg8 T _ _=>?_
   refine rstO' rfl x S T d rfl λu8 O8 U _=>⟨U.mono λj _ L=>by
    have G:=L.2.1;rw [H] at G;cases G;exact a0,?_⟩
   have F8:=S.wrote U (Qe _) (Qc.2 (rfl:110=110));rw [<-Q] at D;have V:=o.put d D E K (λg hg=>by rw [O] at hg;cases hg;exact A) O8 F8;have s8:Stp w2 u8:=⟨Fr.st (Fr.st (lE w2 t) E λi hi=>hi.1) U λi hi=>hi.1⟩;refine rA ⟨rfl,z,⟨_,V,by simp [hM],λq hq=>?_⟩,stp⟩;rw [Jc] at hq;rw [take_add z,zIX,X,Xh];split
   ·rename_i C;subst C;rw [if_pos rfl,Q,f _ d]
   ·rename_i C;rw [if_neg (by omega),QE];exact f q hq
  ·refine rbs1 l[i] rfl rfl (by decide) λa4 t I _ J=>⟨Fr.fr I.e,?_⟩;refine rload1 ((A9.up (w':=t)).cell0 rfl) ⟨Fr.refl _ _,?_⟩;have o:=R8.up (w':=t)
   refine rappD ⟨rfl,rfl⟩ (o.rows _ (Qa d)) J (by simp) (by have:=lz w2 t;omega) (by simp;omega) λv7 a5 D E K=>⟨E.mono λj a6 L=>by
    have:=Z j L.2.1;omega,?_⟩
   have N:M[p].l++[l[i]]≠[]:=by simp
   have y:=D.lt N;obtain⟨g7,O,_,A⟩:=y;have y:=zMN D.sl;obtain⟨x,rfl,Q⟩:=y;have S:=o.top.kept ((o.rows _ (Qa d)).wrote E (Qe _) (Qc.2 rfl)) (by decide);refine tixO rfl S (x:=M[p]) (by simp) λg8 T _ _=>?_
   refine rstO' rfl x S T d rfl λu8 O8 U _=>⟨U.mono λj _ L=>by
    have G:=L.2.1;rw [H] at G;cases G;exact a0,?_⟩
   have F8:=S.wrote U (Qe _) (Qc.2 (rfl:110=110));rw [<-Q] at D;have V:=o.put d D E K (λg hg=>by rw [O] at hg;cases hg;exact A) O8 F8;have s8:Stp w2 u8:=⟨Fr.st (Fr.st (lE w2 t) E λi hi=>hi.1) U λi hi=>hi.1⟩;refine rA ⟨rfl,z,⟨_,V,by simp [hM],λq hq=>?_⟩,stp⟩;rw [Jc] at hq;rw [take_add z,zIX,X,Xh];split
   ·rename_i C;subst C;rw [if_pos rfl,Q,f _ d]
   ·rename_i C;rw [if_neg (by omega),QE];exact f q hq
 ·have y:i=l.length:=by omega
  obtain rfl:=y;rw [Qg] at f;exact⟨⟨_,M,rfl,⟨R.top.mono z2,λx Q=>(R.rows x Q).mono z2,R.apart,R.lt⟩,hM,f⟩,stp⟩
open Go
def okK (m:Nat) (keep slots:List Nat) (c:Code):Bool:=okC m keep (4294967296::slots) c && nodupB (4294967296::slots) && !memB slots 4294967296
theorem zN2{keep slots:List Nat}{c:Code}(b:okC m keep slots c=true){F G:Nat->Value}(h:agree (wr c) F G):
  hdF m keep (zipS slots (mapF G slots)) G F=G:=by
 funext t;unfold hdF;rw [zKs]
 cases e:memB slots t with
 |true=>rfl
 |false =>
  simp only [cond_false]
  cases f:(Nat.beq t 4294967296 || xor (Nat.blt t m) (memB keep t)) with
  |false=>rfl
  |true =>
   simp only [cond_true]
   cases d:wr c t with
   |false=>exact(h t d).symm
   |true =>
    have:=zKw c b t d;simp only [okD,e,Bool.false_or,f] at this;cases this
section
variable {P:Program} {T:Tab} {n:Nat}
theorem loopK(V:T.ok P=true)(m:Nat)(keep slots:List Nat)(I:Value->List Value->World->Prop)(K:List Value->World->Nat){body:Code}{Q:KS}{F:Nat->Value}{w:World}
  (v:okK m keep slots body=true)(h0:I (F 4294967296) (mapF F slots) w)
  (W:∀d vs g w,vs.length=slots.length->I d vs w->S P T n body
   { Q with nrm:=λL w'=>I (L 4294967296) (mapF L slots) w'/\K (mapF L slots) w'<K vs w } (hdF m keep ((4294967296,d)::zipS slots vs) g F) w):DeepS P T n (.loop body) Q F w:=by
 rw [zAE];intro md M a X;simp only [okK,Qz,VJ] at v
 have f:∀(A B:Nat->Value),(∀t,t≠4294967296->A t=B t)->mapF A slots=mapF B slots:=by
  intro A B N
  have:∀l:List Nat,memB l 4294967296=false->mapF A l=mapF B l:=by
   intro l
   induction l with
   |nil=>intro _;rfl
   |cons s r Y =>
    intro h;simp only [memB,QG] at h;simp only [mapF];rw [Y h.2,N s λe=>by subst e;simp at h]
  exact this slots v.2
 have C:∀(G:Nat->Value),agree (wr body) F G->hdF m keep ((4294967296,G 4294967296)::zipS slots (mapF G slots)) G F=G:=λG J=>zN2 (slots:=4294967296::slots) v.1.1 J;refine wpIn_loop (λz w'=>∃G,Rel n G z/\agree (wr body) F G/\I (G 4294967296) (mapF G slots) w') (λz w'=>K (mapF (λt=>z.tmps.getD t undef) slots) w') ⟨F,X,λ_ _=>rfl,h0⟩ ?_;rintro z w' ⟨G,J,c,Z⟩
 have D:(mapF G slots).length=slots.length:=by
  have:∀l,(mapF G l).length=l.length:=by intro l;induction l <;> simp_all [mapF]
  exact this slots
 have U:=W (G 4294967296) (mapF G slots) G w' D Z;rw [C G c] at U;have O:mapF (λt=>z.tmps.getD t undef) slots=mapF G slots:=f _ _ J.get;refine Jb ?_ (zBR V body _ _ _ U md M z J);intro e R a0 E;cases e <;> simp only [KS.lift,Exit.then] at E ⊢
 ·obtain⟨o,p,x,y,h4⟩:=E;have H:mapF (λt=>R.tmps.getD t undef) slots=mapF o slots:=f _ _ p.get;refine⟨⟨o,p,λt b=>by rw [x t b,c t b],y⟩,?_⟩;rw [O,H];exact h4
 ·obtain⟨o,p,x,y⟩:=E;exact⟨o,p,λt b=>by simp only [wr] at b;rw [x t b,c t b],y⟩
 ·obtain⟨o,p,x,y⟩:=E;exact⟨o,p,λt b=>by simp only [wr] at b;rw [x t b,c t b],y⟩
 ·obtain⟨o,p,x,y⟩:=E;exact⟨o,p,λt b=>by simp only [wr] at b;rw [x t b,c t b],y⟩
theorem cnt1K(p:T.ok P=true)(m:Nat)(keep:List Nat)(c s:Nat)(N:Nat)(I:Nat->Value->Value->World->Prop){body:Code}{Q:KS}{F:Nat->Value}{w:World}
  (e:okK m keep [c,s] body=true)(r:F s=.int .i64 0)(h0:I 0 (F 4294967296) (F c) w)
  (t:∀(k:Nat) d b g w,k<=N->I k d b w->S P T n body { Q with nrm:=λf w'=>f s=.int .i64 ((k:Int)+1)/\k<N/\I (k+1) (f 4294967296) (f c) w' } (hdF m keep [(4294967296,d),(c,b),(s,.int .i64 k)] g F) w):DeepS P T n (.loop body) Q F w:=by
 refine loopK p m keep [c,s] (λd vs w=>match vs with|[b,v]=>∃k:Nat,k<=N/\v=.int .i64 k/\I k d b w|_=>False) (λvs _=>match vs with|[_,v]=>N - (Go.RowKit.intOf v).toNat|_=>0) e ⟨0,by omega,r,h0⟩ ?_;intro d vs g w A l
 match vs,l with
 |[b,v],l =>
  obtain⟨k,x,rfl,hi⟩:=l;refine S_mono _ _ _ _ _ (t k d b g w x hi) ?_ (λ_ _ _ _ h=>h) (λ_ _ _ h=>h) (λ_ _ _ _ h=>h);intro G w' _ h;obtain⟨o,y,z⟩:=h;refine⟨⟨k+1,y,o,z⟩,?_⟩;show N - (Go.RowKit.intOf (G s)).toNat<N - _;rw [o];show N - ((k:Int)+1).toNat<N - ((k:Int)).toNat;omega
def mks (Ds:List Nat):List Deferred:=Ds.map λD=>{ target:=.collected D,args:=#[] }
structure Mks (B C:Nat) (d:Value) (u:World):Prop where
 ex:∃Ds,decD d=mks Ds/\Ds.Nodup/\∀D∈Ds,B<=D/\D<C/\u.heap[D]? = some (.deferred (some []))
theorem Mks.fr{E:Nat->Prop}{C:Nat}{d:Value}(h:Mks B C d u)(f:Fr E u u'):Mks B C d u':=by
 obtain⟨e,l,o,b⟩:=h;exact⟨e,l,o,λD c=>⟨(b D c).1,(b D c).2.1,f.nc _ _ (b D c).2.2 rfl⟩⟩
theorem Mks.qt{C:Nat}{d:Value}(h:Mks B C d u)(q:Qt C u u'):Mks B C d u':=by
 obtain⟨e,f,l,b⟩:=h;exact⟨e,f,l,λD c=>⟨(b D c).1,(b D c).2.1,q.block _ _ (b D c).2.2 (.inl (b D c).2.1)⟩⟩
theorem Mks.lt{C e:Nat}{d:Value}(h:Mks B C d u)(f:C<=e):Mks B e d u:=by
 obtain⟨l,o,p,b⟩:=h;exact⟨l,o,p,λD c=>⟨(b D c).1,QJ (b D c).2.1 f,(b D c).2.2⟩⟩
theorem Mks.nil(B C:Nat)(u:World){d:Value}(h:decD d=[]):Mks B C d u:=⟨[],h,.nil,λ_ h=>nomatch h⟩
theorem Mks.add{C D:Nat}{d:Value}(h:Mks B C d u)(e:B<=D)(r:C<=D)(hd:u.heap[D]? = some (.deferred (some []))):Mks B u.heap.size (consD (.pointer (some ⟨D,0,none⟩)) d) u:=by
 obtain⟨f,l,o,c⟩:=h;refine⟨D::f,by rw [zDn _ _ _ rfl,l];rfl,JC.2 ⟨λp=>by have:=(c D p).2.1;omega,o⟩,λE b=>?_⟩;rcases Ql.1 b with rfl|b
 ·exact⟨e,blk_lt hd,hd⟩
 ·exact⟨(c E b).1,blk_lt (c E b).2.2,(c E b).2.2⟩
theorem leaveL{l:List ResultVar}{F:Nat->Value}{R:Value->World->Prop}{o:List PanicEntry->World->Prop}:∀(b:List Nat) (u:World),b.Nodup->(∀D∈b,B<=D/\u.heap[D]? = some (.deferred (some []))) ->
  (∀u',Qt B u u'->resS P l [] F R u')->LeaveS P l F (mks b) .returning R o u
 |[],u,_,_,h=>leave_ret (h u (.of_ext (Fr.refl _ _)))
 |D::b,u,c,d,h=>by
  rw [JC] at c;have e:=d D Qs;have q:Qt B u (u.putObj D (.deferred none)):=Qt.put e.2 rfl e.1;refine zHJ (by intro h;cases h) e.2 (leaveL b _ c.2 (λE f=>⟨(d E (QF _ f)).1,?_⟩) λu' p=>h u' (q.trans p));rw [Jk]
  ·exact(d E (QF _ f)).2
  ·rintro rfl;exact c.1 f
theorem zOs{b:List ResultVar}{F:Nat->Value}{R:Value->World->Prop}{f:List PanicEntry->World->Prop}{C:Nat}{d:Value}(l:F 4294967296=d)(M:Mks B C d u)(h:∀u',Qt B u u'->resS P b [] F R u'):retS P b R f F u:=by
 obtain⟨o,p,t,c⟩:=M;unfold retS;rw [l,p]
 cases o with
 |nil=>exact h u (.of_ext (Fr.refl _ _))
 |cons D r=>exact leaveL (D::r) u t (λE e=>⟨(c E e).1,(c E e).2.2⟩) h
end
theorem zH9{c:Nat}{l:List StD}{w:World}(h:SlF w (.slice a n c) l)(I:l.length<=1000000):Sp PP 188 #[.slice a n c] w λv w'=>Own w.heap.size 222 w' v l/\Stp w w'/\∀b,Value.blk v=some b->b<w'.heap.size:=by
 have D:=h.len;obtain rfl:=D;refine eN ?_;refine rsnil (λt=>?_) (λt=>?_)
 ·have E:l=[]:=by
   obtain⟨J,K,F,_,f⟩:=h;cases F;rcases f with f|⟨b,o,d,_⟩
   ·exact f
   ·rw [t] at d;cases d
  subst E;exact⟨Own.nil _ _ _,stp,λb d=>nomatch d⟩
 ·refine rbs (α:=StD) [] rfl (vs:=[]) rfl rfl (by decide) λx w1 n1 _=>?_;have L:Stp w w1:=⟨n1.ext⟩;have y:x<w1.heap.size:=blk_lt n1.blk;refine rappE ⟨rfl,rfl⟩ (Own.nil' w.heap.size 222 _ _) (h.up (w':=w1)) n1.ext.size (by simp;omega) λG z A C p=>?_;rw [Je] at A;have M:Stw w w1 z:=zAI C
  have e:∀b,Value.blk G=some b->b<z.heap.size:=λb d=>by
   have:=C.size;rcases p with r|⟨r,H⟩
   ·rw [r] at d;cases d;show x<_;omega
   ·rw [r] at d;cases d;exact H
  exact⟨A,stp,e⟩
theorem zPK{x:Int}{W:Nat}(h:x∈upTo W):∃p:Nat,x=(p:Int)/\p<W:=by
 unfold upTo at h;have b:=Qq.1 h;obtain⟨p,c,d⟩:=b;exact⟨p,d.symm,Q0.1 c⟩
theorem zHw{X:List StD}{W:Nat}{b:List Int}(c:1<=W)(d:b.Perm (upTo W)):(b.flatMap λp=>boxL W X p.toNat).Perm X:=by
 have e:(b.flatMap λp=>boxL W X p.toNat).Perm ((upTo W).flatMap λp=>boxL W X p.toNat):=d.flatMap_right _;refine e.trans ?_
 have f:((upTo W).flatMap λp=>boxL W X p.toNat)=(List.range W).flatMap λp:Nat=>X.filter λx=>decide (homW W x.key.v=(p:Int)):=by
  unfold upTo boxL;rw [XJ];rfl
 rw [f];refine(zNz (λx:StD=>homW W x.key.v) X W).trans ?_
 have h:(X.filter λx=>decide (0<=homW W x.key.v/\homW W x.key.v<(W:Int)))=X:=JH.2 λx _=>by
  have l:=zIn c x.key.v;obtain⟨p,o,r⟩:=l;simp only [decide_eq_true_eq];omega
 rw [h]
def sendsL (g:GrD) (q:QyD) (P:List StD):List StD:=P.flatMap (nextL g q)
theorem zDx(b:GrIs g)(q:QyD)(x:StD):(nextL g q x).length<=2000:=by
 unfold nextL;split
 ·simp
 ·rw [Qr];exact zCW b _ _
theorem zH5(b:GrIs g)(q:QyD)(P:List StD):(sendsL g q P).length<=2000*P.length:=by
 induction P with
 |nil=>simp [sendsL]
 |cons x r c =>
  have:=zDx b q x;unfold sendsL at *;rw [JV,Qb,QA];omega
theorem zN0(S M:List StD):(freshL S M).length<=M.length:=Qw (Qv _ _) (zCn M)
theorem zO1{S M:List StD}(h:∀x∈M,OkX g x):∀x∈freshL S M,OkX g x:=λx b=>h x (zDw.1 b).1.1
theorem zQz{S M P N:List StD}(r:SRis S)(l:P.Perm (freshL S M))(t:N.Perm (S++P))(v:N.Pairwise λa b=>¬lessK b.key a.key):N=(stepL g q S M).1/\freshL N (sendsL g q P)=(stepL g q S M).2:=by
 have c:∀x∈freshL S M,∀y∈S,y.key≠x.key:=λx w=>(zDw.1 w).2;have o:SRis (insAll (freshL S M) S):=zHH r (zHi (zHE S M)) c;have d:N.Perm (insAll (freshL S M) S):=t.trans ((l.append_left S).trans (zBf _ _).symm);have e:N.Pairwise λa b=>a.key≠b.key:=(d.pairwise_iff λh=>Jq h).2 (zHi o);have f:SRis N:=(v.and e).imp λ⟨z,A⟩=>zCw (λC=>z C) (Jq A);have p:N=insAll (freshL S M) S:=f.uniq o λx=>d.mem_iff;refine⟨p,?_⟩;unfold stepL;simp only;rw [<-p];unfold freshL;rw [zNe (show (sendsL g q P).Perm ((freshL S M).flatMap (nextL g q)) from l.flatMap_right _)];rfl
theorem wk_two{L:List StD}{f:StD->List StD}:∀(b:List (List Value)) (x:List Value) (u:World),(∃h:b.length<L.length,∃v,x=[agg L[b.length],v]/\Own 0 211 u v (f L[b.length]))->x.length=2:=by
 rintro b x u ⟨_,v,rfl,_⟩;rfl
structure StpI (g:GrD) (q:QyD) (S P:List StD) (B bn bs:Nat) (u:World) (na nc:_) (sa sc:_):Prop where
 now:Bk u bn [.slice na (S++P).length nc] 112
 sent:Bk u bs [.slice sa (sendsL g q P).length sc] 110
 on:Own B 222 u (.slice na (S++P).length nc) (S++P)
 os:Own B 211 u (.slice sa (sendsL g q P).length sc) (sendsL g q P)
theorem StpI.up{S P:List StD}{b bs:Nat}{c d e f:_}[Le u u'](h:StpI g q S P B b bs u c d e f):StpI g q S P B b bs u' c d e f:=⟨h.now.mv,h.sent.mv,h.on.up,h.os.up⟩
theorem StpI.qt{C:Nat}{S P:List StD}{b bs:Nat}{c d e f:_}(h:StpI g q S P B b bs u c d e f)(k:Qt C u u'):StpI g q S P B b bs u' c d e f:=⟨h.now.qt k,h.sent.qt k,h.on.qt k,h.os.qt k⟩
theorem zE1{r:List EdN}{xq:RQ}{xr:RRow}{S M:List StD}{W:Nat}{c c2 c3:Nat}{w:World}(hg:GrIs g)(R:RwF w xr g r)(hk:xq.kind=q.kind/\xq.rad=q.rad)
  (h1:SlF w (.slice a n c) S)(V:SlF w (.slice a2 n2 c2) M)(h3:SlF w (.slice a3 n3 c3) ps)(hW:1<=W/\W<=16)(hS:SRis S)(g8:∀x∈S,OkX g x)(b7:∀x∈M,OkX g x)(m6:S.length<=10000)(m7:M.length<=400):
  Sp PP 109 #[agg xq,agg xr,.slice a n c,.slice a2 n2 c2,.int .i64 (W:Int),.slice a3 n3 c3] w λv w'=>(∃v1 v2,v=.tuple #[v1,v2,.int .i64 0]/\Own w.heap.size 222 w' v1 (stepL g q S M).1/\Own w.heap.size 211 w' v2 (stepL g q S M).2)/\Stp w w':=by
 have Y:=h1.len;obtain rfl:=Y;have Y:=V.len;obtain rfl:=Y;have Y:=h3.len;obtain rfl:=Y;obtain⟨ro,rt,rr,rv⟩:=xr;obtain⟨a1,g9,a4⟩:=ro;have d1:g9=g.n+1:=by have:=R.off.len;rw [zAp] at this;exact this
 subst d1;refine eN ?_;refine rbx λbq w1 n1 Bq=>rbx λbr w2 n2 Br=>rX Br rfl ?_;have m8:=hg.ok.n2;refine rarE (y:=(g.n:Int)) (by show ((g.n+1:Nat):Int) - 1=(g.n:Int);omega) (by omega) (ral λbN w3 n3 Z3=>?_);have m9:=n1.b;have n0:=n1.s;have n5:=n2.b;have n6:=n2.s;have n7:=n3.b;have n8:=n3.s;refine rS Z3 [.int .i64 (g.n:Int)] (int_o _) λw4 N4 f4 _=>?_;have N4:Bk w4 bN [.int .i64 (g.n:Int)] 3:=N4;have s4:Stp w w4:=⟨Fr.st (lE w w3) f4 λi hi=>by omega⟩;have Bq:=(Bq.mv (w:=w3)).fr f4 (by omega);have Br:=(Br.mv (w:=w3)).fr f4 (by omega);clear Z3 f4;refine rG Br (⟨⟨a1,g.n+1,a4⟩,rt,rr,rv⟩:RRow) (rcall (zBL hg (R.up (w':=w4))) ?_);rintro _ w5 ⟨rfl,e5⟩;refine rcall (zJV (n:=W) (by omega) (h3.up (w':=w5))) ?_;rintro _ w6 ⟨⟨ol,ov,rfl,a8,Oo⟩,e6⟩;refine rcall (zDZ (h1.up (w':=w6)) (V.up (w':=w6)) (by omega) (by omega)) ?_;rintro fv w7 ⟨Of,e7⟩;have d2:=zO1 (S:=S) b7;have n9:=zN0 S M;have Y:=Of.shape;obtain⟨fa,fc,rfl⟩:=Y;refine rcall (zJE Of.sl (by omega) hW λx hx=>(d2 x hx).1) ?_;rintro _ w8 ⟨⟨bv,MB,rfl,RB,o0,d3⟩,e8⟩;have qb:=RB.top.shape;obtain⟨ba,bc,rfl⟩:=qb;refine iF (· rfl) (iF (· rfl) (rX N4 rfl (rcall (zIE (m:=(g.n:Int)) (h1.up (w':=w8)) (by omega) hS λx hx=>g8 x hx) ?_)));rintro _ w9 ⟨rfl,e9⟩;refine rcall (zCC (V.up (w':=w9)) (by omega)) ?_;rintro _ F ⟨⟨rfl,_⟩|⟨rfl,h0⟩,o3⟩
 case' inr=>exact absurd (λx hx=>(b7 x hx).1) h0
 refine rcall (zB0 (g:=180) (first:=[]) (cap:=[.pointer (some ⟨bN,0,none⟩)]) (p:=λx=>x.key.v≥(g.n:Int)) (V.up (w':=F)) (by omega) λx u hx e=>zNT ((N4.mv (w:=F)).fr e nf)) ?_;rintro _ o ⟨⟨rfl,d4⟩|⟨rfl,d4⟩,o4⟩
 case' inl=>exact absurd d4 (λ⟨y,hy,h⟩=>by have:=(b7 y hy).2;omega)
 refine rcall (zH9 (h1.up (w':=o)) (by omega)) ?_;rintro nv d5 ⟨On,h2,b8⟩;have Y:=On.shape;obtain⟨a5,a6,rfl⟩:=Y;refine ral λbn h4 d6 d7=>?_;have l8:=d6.b;have l9:=d6.s;have o5:=h2.e.size;refine rS d7 [.slice a5 S.length a6] (sv1 _ _ _) λd8 b0 d9 _=>?_;have b0:Bk d8 bn [.slice a5 S.length a6] 112:=b0;have h8:Stp d5 d8:=⟨Fr.st (lE d5 h4) d9 λi hi=>by omega⟩;refine ral λbs C e0 b3=>?_;have m0:=e0.b;have m2:=e0.s;have b3:Bk C bs [.slice none 0 0] 110:=b3;have b9:StpI g q S [] o.heap.size bn bs C a5 a6 none 0:=⟨by simpa using b0.mv (w:=C),by simpa [sendsL] using b3,by simpa using On.up (w':=C),by simpa [sendsL] using Own.nil _ _ _⟩;clear d7 d9 b0 b3
 have f0:∀b,Value.blk (.slice a5 S.length a6)=some b->b<C.heap.size:=λb z=>by
  have:=b8 b z;omega
 have hlt:bn<C.heap.size/\bs<C.heap.size:=⟨b9.now.lt,b9.sent.lt⟩;have o6:=h8.e.size;have o7:o.heap.size<=bn/\o.heap.size<=bs/\bn≠bs:=by omega
 have f1:=zLv W;have f3:=a8.length_eq;rw [f1] at f3;have h9:=Oo.shape;obtain⟨oa,oc,rfl⟩:=h9;have i0:=R.up (w':=o);have i1:=h3.up (w':=o);have b5:=RB.up (w':=o);have f5:=Bq.mv (w:=o);have f6:=Br.mv (w:=o);have g0:=Oo.up (w':=o);have i2:w.heap.size<=o.heap.size:=Le.size;refine cnt1K TBok 77 [24,25,26,27,28] 18 77 ol.length (λk d v u=>v=.int .i64 0/\Mks C.heap.size u.heap.size d u/\(∃P O Q T U,P.Perm ((ol.take k).flatMap λp=>boxL W (freshL S M) p.toNat)/\StpI g q S P o.heap.size bn bs u O Q T U/\(∀b,Value.blk (.slice O (S++P).length Q)=some b->b<u.heap.size)/\∀b,Value.blk (.slice T (sendsL g q P).length U)=some b->b<u.heap.size)/\Stp o u/\C.heap.size<=u.heap.size) rfl rfl ⟨rfl,Mks.nil _ _ _ rfl,⟨[],a5,a6,none,0,.refl _,b9,λb z=>by have:=f0 b (by simpa using z);omega,λb z=>nomatch z⟩,stp,Qe _⟩ ?_;rintro k d v G u o8 ⟨rfl,K,⟨P,O,Q,T,U,hP,I,g1,g2⟩,su,zu⟩
 have o9:P.length<=(freshL S M).length:=by
  have h1:=(hP.append_right ((ol.drop k).flatMap λp=>boxL W (freshL S M) p.toNat)).length_eq;rw [<-Jl,JW,(zHw hW.1 a8).length_eq,Qb] at h1;omega
 refine ite (λm3=>?_) (λp0=>?_)
 ·have c0:k<ol.length:=by omega
  have i3:ol[k]∈upTo W:=a8.mem_iff.1 (Qa c0);have i4:=zPK i3;obtain⟨p,hp,p1⟩:=i4;have g3:p<MB.length:=by omega
  refine rix (g0.up (w':=u)).sl (x:=ol[k]) (by simp) λb1 o1 A1=>?_;have i5:=A1.cell0 (v:=Value.int .i64 (p:Int)) (by rw [hp];rfl);refine rload1 i5 (dQ 11 λu1 e1=>tG f5 xq nf (tG f6 (⟨⟨a1,g.n+1,a4⟩,rt,rr,rv⟩:RRow) nf ?_));have p2:=zJ8 W (freshL S M) p;have b4:=d3 p g3;have SB:SlF u1 MB[p].v MB[p].l:=(b5.up (w':=u1)).rows _ (Qa g3) |>.sl;refine tix (i:=p) (b5.up (w':=u1)).top.sl (x:=MB[p]) (by simp) λb2 o2 A2 _=>tload1 (A2.cell0 rfl) nf (rcall (zJU SB (by rw [b4];omega) (i1.up (w':=u1))) ?_);rintro lv u2 ⟨⟨L,c4,OL⟩,e2⟩;refine⟨e2.e,?_⟩;have ql:=OL.shape;obtain⟨la,lc,rfl⟩:=ql;refine tbuild (cs:=enc xq++enc (⟨⟨a1,g.n+1,a4⟩,rt,rr,rv⟩:RRow)++[.slice la L.length lc,.int .i64 0]) rfl (rbx λbw u3 c5 W3=>⟨c5.e,?_⟩);refine rcall zEE ?_;rintro _ E ⟨Z,rfl,n4,B4⟩;have i6:=c4.length_eq;have p3:L.length<=400:=by rw [i6,b4];omega
  have i7:∀x∈L,OkX g x:=λx hx=>d2 x (QC.1 (b4 ▸ c4.mem_iff.1 hx)).1;have p4:=lz u u1;have p5:=lz u u2;have i8:=lz u E;have p6:=lz u2 E;have p7:=c5.b;have p8:=c5.s;have p9:=n4.b;have m4:=n4.s;have D4:WrkD o xq (⟨⟨a1,g.n+1,a4⟩,rt,rr,rv⟩:RRow) L la lc Z bw E:=⟨.of_ext (lE o E),B4,W3.mv (w:=E),OL.sl.up⟩;have I4:=I.up (u':=E)
  have hX:∀i,wkX o.heap.size Z bw (.slice la L.length lc) (L≠[]) i->i<o.heap.size\/(u.heap.size<=i/\i<E.heap.size):=λi hi=>by
   rcases hi with h|h|h|⟨h,h'⟩
   ·exact .inl h
   ·right;omega
   ·right;omega
   ·have Y:=OL.lt h;obtain⟨g',g4,q0,q3⟩:=Y;rw [h'] at g4;cases g4;right;omega
  have i9:StpI g q S (P++L.take ([]:List (List Value)).length) o.heap.size bn bs E O Q T U:=by simpa using I4
  refine rrangeG TBok rfl (gf:=273) (first:=[]) (cap:=[.pointer (some ⟨Z,0,none⟩)]) (Rc:=λc u=>(∃D,Fr D c u)/\Kp (wkX o.heap.size Z bw (.slice la L.length lc) (L≠[])) c u) rfl rfl (zPL hg i0 hk i7 (by omega)) wk_two (λu u' h=>⟨_,h⟩)
   (λA x=>∃O Q T U,A.length<=L.length/\StpI g q S (P++L.take A.length) o.heap.size bn bs x O Q T U/\WrkD o xq (⟨⟨a1,g.n+1,a4⟩,rt,rr,rv⟩:RRow) L la lc Z bw x/\((∀b,Value.blk (.slice O (S++(P++L.take A.length)).length Q)=some b->b<x.heap.size/\(b<u.heap.size\/E.heap.size<=b))/\∀b,Value.blk (.slice T (sendsL g q (P++L.take A.length)).length U)=some b->b<x.heap.size/\(b<u.heap.size\/E.heap.size<=b))/\Mks C.heap.size E.heap.size d x/\Stp o x/\E.heap.size<=x.heap.size) (λ_ _=>False)
   ?_ ?_ ?_ ?_ ?_ (λc u h=>h.1) (λw' e=>D4.kp (.of_ext e)) ⟨O,Q,T,U,by simp,i9,D4,⟨λb z=>⟨by have:=g1 b (by simpa using z);omega,.inl (g1 b (by simpa using z))⟩,λb z=>⟨by have:=g2 b (by simpa using z);omega,.inl (g2 b (by simpa using z))⟩⟩,(K.fr (lE u E)).lt i8,stp,Qe _⟩ ?_ ?_ ?_
  ·rintro A x x' ⟨O,Q,T,U,h1,V,h3,H,h5,h6,h7⟩ qt;have:=qt.size;exact⟨O,Q,T,U,h1,V.qt qt,h3.kp (.of_qt qt),⟨λb z=>⟨by have:=H.1 b z;omega,(H.1 b z).2⟩,λb z=>⟨by have:=H.2 b z;omega,(H.2 b z).2⟩⟩,h5.qt qt,h6.qt (qt.mono (by omega)),by omega⟩
  ·rintro _ x x' h;exact h.elim
  ·rintro A x x' _ ⟨O,Q,T,U,h1,V,h3,H,h5,h6,h7⟩ qe;have:=qe.size;have L2:Le x x':=⟨qe⟩;exact⟨O,Q,T,U,h1,V.up,h3.kp (.of_ext qe),⟨λb z=>⟨by have:=H.1 b z;omega,(H.1 b z).2⟩,λb z=>⟨by have:=H.2 b z;omega,(H.2 b z).2⟩⟩,h5.fr qe,⟨h6.e.t qe⟩,by omega⟩
  ·rintro _ x x' _ h;exact h.elim
  ·rintro x c x2 x3 q1 ⟨_,r⟩ q2;exact((Kp.of_qt q1).trans r).trans (.of_qt q2)
  ·rintro A x x0 ⟨g5,vn,rfl,j0⟩ _ ⟨O,Q,T,U,h1,V,h3,H,h5,h6,h7⟩;refine ral λbx v1 m1 z1=>rE z1 (L[A.length]) λv2 X2 f2 _=>?_;have X2:Bk v2 bx (enc L[A.length]) 222:=X2;have s2:Stp x0 v2:=m1.st f2;refine⟨s2.e,λc1 qt=>?_⟩;have q4:=s2.e.size;have q5:=qt.size;have X:=X2.qt qt;have J:=(V.up (u':=v2)).qt qt;have D1:=(h3.kp (.of_ext s2.e)).kp (.of_qt qt);have j1:=(j0.up (w':=v2)).qt qt;have M1:=(h5.fr s2.e).qt qt;have q6:Stp o c1:=⟨(h6.e.t s2.e).qt (qt.mono (by omega))⟩;have q8:(P++L.take A.length).length<=800:=by rw [Qb,Qm];omega
   have j2:=zH5 hg q (P++L.take A.length);have r0:=zDx hg q L[A.length];refine rX J.now rfl (rG X (L[A.length]) (rbs1 L[A.length] rfl rfl (by decide) λb6 v6 e6 _ S6=>?_));have z6:=lz c1 v6;refine rappE ⟨rfl,rfl⟩ (J.on.up (w':=v6)) S6 (by omega) (by rw [Qb];simp;omega) λv7 w7 O7 f7 j3=>?_;have k2:=(J.now.mv (w:=v6)).fro (J.on.up (w':=v6)) f7;have k3:=(J.sent.mv (w:=v6)).fro (J.on.up (w':=v6)) f7;have k4:=(J.os.up (w':=v6)).fro (J.on.up (w':=v6)) f7;have k5:=(j1.up (w':=v6)).fro (J.on.up (w':=v6)) f7;have q7:=O7.shape;obtain⟨a7,c7,rfl⟩:=q7;have z7:=f7.size;refine rsto (B:=k2) (vs:=[.slice a7 _ c7]) rfl rfl rfl (sv1 _ _ _) λw8 B8 f8 z8=>?_;have k3:=k3.fr f8 (by omega);have k4:=k4.frc f8 k2;have k5:=k5.frc f8 k2;have O8:=O7.frc f8 k2;refine rX k3 rfl ?_;have j4:=k5.shape;obtain⟨xa,xc,rfl⟩:=j4;refine rappE ⟨rfl,rfl⟩ k4 k5.sl (by omega) (by omega) λv9 w9 O9 f9 j5=>?_;have k6:=k3.fro k4 f9;have B9:=B8.fro k4 f9;have j6:=O8.fro k4 f9;have q9:=O9.shape;obtain⟨a9,c9,rfl⟩:=q9;have z9:=f9.size;refine rsto (B:=k6) (vs:=[.slice a9 _ c9]) rfl rfl rfl (sv1 _ _ _) λF j7 a0 r1=>?_;have j8:=B9.fr a0 (by omega);have j9:=j6.frc a0 k6;have k0:=O9.frc a0 k6;have c6:(A++[[agg L[A.length],Value.slice xa (nextL g q L[A.length]).length xc]]).length=A.length+1:=by simp
   have g6:P++L.take (A.length+1)=P++L.take A.length++[L[A.length]]:=by rw [take_add g5,Qp]
   have c8:sendsL g q (P++L.take (A.length+1))=sendsL g q (P++L.take A.length)++nextL g q L[A.length]:=by rw [g6];unfold sendsL;rw [Jl];simp
   have d0:S++(P++L.take (A.length+1))=S++(P++L.take A.length)++[L[A.length]]:=by rw [g6];simp only [Qp]
   have J2:StpI g q S (P++L.take (A.length+1)) o.heap.size bn bs F a7 c7 a9 c9:=by
    refine⟨?_,?_,?_,?_⟩
    ·rw [d0];exact j8
    ·rw [c8];exact j7
    ·rw [d0];exact j9
    ·rw [c8];exact k0
   have zz:E.heap.size<=c1.heap.size:=by omega
   have k1:∀i,ownD o.heap.size (.slice O (S++(P++L.take A.length)).length Q) i->o.heap.size<=i/\(i<u.heap.size\/E.heap.size<=i):=λi hi=>⟨hi.1,(H.1 i hi.2.1).2⟩;have k7:∀i,ownD o.heap.size (.slice T (sendsL g q (P++L.take A.length)).length U) i->o.heap.size<=i/\(i<u.heap.size\/E.heap.size<=i):=λi hi=>⟨hi.1,(H.2 i hi.2.1).2⟩;have kp:Kp (wkX o.heap.size Z bw (.slice la L.length lc) (L≠[])) c1 F:=((((Kp.of_ext e6.e).trans (.of_fr f7 λi hi hd=>by have:=hX i hi;have:=k1 i hd;omega)).trans (.of_fr f8 λi hi hd=>by have:=hX i hi;omega)).trans (.of_fr f9 λi hi hd=>by have:=hX i hi;have:=k7 i hd;omega)).trans (.of_fr a0 λi hi hd=>by have:=hX i hi;omega);have k8:Stp o F:=⟨Fr.st (Fr.st (Fr.st (Fr.st (lE o v6) f7 λi hi=>hi.1) f8 λi hi=>by omega) f9 λi hi=>hi.1) a0 λi hi=>by omega⟩;have fr:Fr (λ_=>True) c1 F:=((((Fr.fr e6.e).trans (Fr.mono f7 λ_ _ _=>trivial)).trans (Fr.mono f8 λ_ _ _=>trivial)).trans (Fr.mono f9 λ_ _ _=>trivial)).trans (Fr.mono a0 λ_ _ _=>trivial)
   have k9:∀b,Value.blk (.slice a7 (S++(P++L.take (A.length+1))).length c7)=some b->b<F.heap.size/\(b<u.heap.size\/E.heap.size<=b):=λb z=>by
    rw [d0] at z;rcases j3 with h|⟨h,h'⟩
    ·have:=H.1 b (h.symm.trans z);omega
    ·have:=h.symm.trans z;cases this;omega
   have l0:∀b,Value.blk (.slice a9 (sendsL g q (P++L.take (A.length+1))).length c9)=some b->b<F.heap.size/\(b<u.heap.size\/E.heap.size<=b):=λb z=>by
    rw [c8] at z;rcases j5 with h|⟨h,h'⟩
    ·have:=H.2 b (h.symm.trans z);omega
    ·have:=h.symm.trans z;cases this;omega
   have l1:Mks C.heap.size E.heap.size d F:=M1.fr fr;exact⟨⟨a7,c7,a9,c9,by rw [c6];omega,by rw [c6];exact J2,D1.kp kp,by rw [c6];exact⟨k9,l0⟩,l1,k8,by omega⟩,⟨_,fr⟩,kp⟩
  ·rintro A D u6 hE ⟨O,Q,T,U,h1,V,h3,H,h5,h6,h7⟩ hD hd;rw [hE,Qg] at V H;refine rX h3.w rfl (iF (· rfl) ?_);have K6:=h5.add (D:=D) (by omega) hD hd
   have l2:(P++L).Perm ((ol.take (k+1)).flatMap λp=>boxL W (freshL S M) p.toNat):=by
    rw [take_add c0,Jl];refine List.Perm.append hP ?_;simp only [JV,XM,QE];rw [hp,QW,<-b4];exact c4
   refine rA ⟨rfl,c0,rfl,K6,⟨P++L,O,Q,T,U,l2,V,λb z=>(H.1 b z).1,λb z=>(H.2 b z).1⟩,h6,by omega⟩
  ·rintro c D x h;exact h.elim
 ·have Y:k=ol.length:=by omega
  obtain rfl:=Y;rw [Qg] at hP;have l3:=hP.trans (zHw hW.1 a8);have j2:=zH5 hg q P;refine iF (· rfl) (rX I.now rfl (rcall (zCZ Tryz.sortS (k:=4) (show Agg PP 222 4 from inferInstance) rfl cfM zMx (f:=191) rfl (λx y W=>zNU) I.on (by rw [Qb];omega)) ?_));rintro _ u2 ⟨rfl,N,hN,l4,ON,f2⟩;have g7:=hN.length_eq;rw [Qb] at g7;have l5:=zQz (q:=q) (g:=g) hS l3 hN (l4.imp λh hl=>h ((zF1 _ _).2 hl));obtain⟨l6,l7⟩:=l5;have B2:=I.now.fro I.on f2;have C2:=I.sent.fro I.on f2;have O2:=I.os.fro I.on f2;have K2:=K.fr f2;have s2:Stp o u2:=⟨Fr.st su.e f2 λi hi=>hi.1⟩;have m5:(S++P).length=N.length:=by rw [Qb,g7]
  refine dQ 7 λu3 e3=>tX B2 rfl nf (tX B2 rfl nf (tX C2 rfl nf ?_));refine rcall (zDZ (ON.sl.up (w':=u3)) (O2.sl.up (w':=u3)) (by omega) (by omega)) ?_;rintro fv E ⟨OF,e4⟩;refine⟨e4.e,?_⟩;have z2:=f2.size;have z3:=e3.e.size;have K4:=(K2.fr e3.e).fr e4.e
  have fin:∀u',Qt C.heap.size E u'->(∃v1 v2,Value.tuple #[.slice O (S++P).length Q,fv,.int .i64 0]=.tuple #[v1,v2,.int .i64 0]/\Own w.heap.size 222 u' v1 (stepL g q S M).1/\Own w.heap.size 211 u' v2 (stepL g q S M).2)/\Stp w u':=λu' qt=>by
   have r2:o.heap.size<=C.heap.size:=by omega
   refine⟨⟨_,_,rfl,?_,?_⟩,⟨(lE w E).qt (qt.mono (by omega))⟩⟩
   ·rw [<-l6];exact((ON.up (w':=E)).qt qt).mono i2
   ·rw [<-l7];exact(OF.qt qt).mono (by omega)
  exact zOs rfl K4 fin
theorem zDA{c:Nat}{L:List StD}{bl bs:Nat}{dir v slot:Int}{w:World}(F:B<=w.heap.size)(K:Bk w bl [.slice a n c] 110)(O:Own B 211 w (.slice a n c) L)(S:Bk w bs [.int .i64 slot] 3)(G:L.length<=1000):
  Sp PP 177 #[.int .i64 dir,.int .i64 v,.pointer (some ⟨bl,0,none⟩),.pointer (some ⟨bs,0,none⟩)] w λ_ w'=>(∃o p r,Bk w' bl [.slice o p r] 110/\Own B 211 w' (.slice o p r) (L++[⟨⟨slot,dir,v⟩,0⟩]))/\Bk w' bs [.int .i64 slot] 3/\Fr (λi=>i=bl\/B<=i) w w':=by
 refine eN ?_;refine rX K rfl (rX S rfl ?_);refine rbuild (cs:=enc (⟨slot,dir,v⟩:KeyD)) rfl (rbuild (cs:=enc (⟨⟨slot,dir,v⟩,0⟩:StD)) rfl (bS (⟨⟨slot,dir,v⟩,0⟩:StD) λH w1 n1 _ A=>?_));have I:=lz w w1;refine rappB ⟨rfl,rfl⟩ (O.up (w':=w1)) A (by omega) (by simp;omega) λJ w2 t b=>?_;have d:=(K.mv (w:=w1)).fro (O.up (w':=w1)) b;have x:=(S.mv (w:=w1)).fro (O.up (w':=w1)) b;have C:=t.shape;obtain⟨a2,y,rfl⟩:=C;refine rS d [.slice a2 _ y] (sv1 _ _ _) λM D f _=>?_
 have l:bs≠bl:=by
  rintro rfl;have E:=d.h;have z:=x.h;rw [E] at z;cases z
 exact⟨⟨a2,_,y,D,t.frc f d⟩,x.fr f l,((Fr.fr n1.e).trans (b.mono λi _ hi=>.inr hi.1)).trans (f.mono λi _ hi=>.inl hi)⟩
theorem zEx{slot:Int}:mls g q slot 0=(src q 0).map (λv:Nat=>(⟨⟨slot,0,v⟩,0⟩:StD))++(src q 1).map (λv:Nat=>(⟨⟨slot,1,v⟩,0⟩:StD)):=rfl
theorem zJH{xq:RQ}{slot:Int}{w:World}(M:xq.kind=q.kind/\xq.frm=q.frm/\xq.to=q.to)(C:QyOk q g.n):
  Sp PP 105 #[agg xq,.int .i64 slot] w λv w'=>Own w.heap.size 211 w' v (mls g q slot 0)/\Stp w w':=by
 obtain⟨N,x,D⟩:=M;have f:=C.frm;have E:=C.kind;have y:src q 0=[q.frm.toNat]:=rfl;refine eN ?_;refine rbx λbq w1 n1 z=>rbx λbs w2 n2 O=>ral λbl h n3 F=>?_;have F:Bk h bl [.slice none 0 0] 110:=F;have Q:=n1.b;have d:=n1.s;have R:=n2.b;have S:=n2.s;have T:=n3.b;have U:=n3.s;refine rX z rfl ?_;have G:=zDA (L:=[]) (dir:=0) (v:=xq.frm) (B:=h.heap.size) (Qe _) F (Own.nil _ _ _) (O.mv (w:=h)) (by simp);refine ite (λV=>?_) (λV=>?_)
 ·refine rX z rfl (rcall G ?_);rintro _ c ⟨⟨o,p,r,A,l⟩,H,t⟩;have s4:Stp w2 c:=⟨Fr.st (lE w2 h) t λi hi=>by omega⟩;refine rX z rfl ?_;have W:=t.size;refine rcall (zDA (dir:=1) (v:=xq.to) W A l H (by simp)) ?_;rintro _ w5 ⟨⟨a5,n5,c5,X,J⟩,S5,Y⟩;refine rX X rfl ?_;have I:=C.to (by omega);have d:src q 1=[q.to.toNat]:=by unfold src;rw [if_neg (by decide),if_pos (by omega)]
  have e:([]:List StD)++[⟨⟨slot,0,xq.frm⟩,0⟩]++[⟨⟨slot,1,xq.to⟩,0⟩]=mls g q slot 0:=by
   rw [zEx,y,d,x,D];simp only [QS,JP,Je,VO];rw [Jh f.1,Jh I.1]
  rw [e] at J;exact⟨J.mono (by omega),⟨Fr.st (lE w c) Y λi hi=>by omega⟩⟩
 ·have fin:∀(c:World) (o:Option Addr) (p r:Nat),Own h.heap.size 211 c (.slice o p r) (([]:List StD)++[⟨⟨slot,0,xq.frm⟩,0⟩])->Own w.heap.size 211 c (.slice o p r) (mls g q slot 0):=λc o p r l=>by
   have d:src q 1=[]:=by unfold src;rw [if_neg (by decide),if_neg (by omega)]
   have e:([]:List StD)++[⟨⟨slot,0,xq.frm⟩,0⟩]=mls g q slot 0:=by
    rw [zEx,y,d,x];simp only [QS,JP,Je,QE];rw [Jh f.1]
   rw [<-e];exact l.mono (by omega)
  refine ite (λZ=>?_) (λZ=>?_)
  ·refine rX z rfl (rcall G ?_);rintro _ c ⟨⟨o,p,r,A,l⟩,H,t⟩;refine rX A rfl ?_;exact⟨fin c _ _ _ l,⟨Fr.st (lE w h) t λi hi=>by omega⟩⟩
  ·refine ite (λK=>?_) (λK=>absurd K (by omega));refine rX z rfl (rcall G ?_);rintro _ c ⟨⟨o,p,r,A,l⟩,H,t⟩;refine rX A rfl ?_;exact⟨fin c _ _ _ l,⟨Fr.st (lE w h) t λi hi=>by omega⟩⟩
theorem zAr{v n:Int}{b:Nat}{w:World}(K:Bk w b [.int .i64 n] 3):Sp PP 226 #[.int .i64 v,.pointer (some ⟨b,0,none⟩)] w λr w'=>Tells (0<=v/\v<n) r/\w'=w:=by
 refine eN ?_;refine ite (λc=>?_) (λc=>⟨.f λh=>c h.1,rfl⟩);refine rX K rfl ?_;exact ite (λd=>⟨.t ⟨c,d⟩,rfl⟩) (λd=>⟨.f λh=>d h.2,rfl⟩)
theorem zHS{s:ByteArray}{w:World}(b:s.size<=1000000):Sp PP 227 #[.string s] w λv w'=>Tells (¬WordB s) v/\Stp w w':=by
 refine eN ?_;refine rcall (zEV b) ?_;rintro _ w1 ⟨⟨rfl,h⟩|⟨rfl,h⟩,d⟩
 ·exact⟨.f λc=>c h,stp⟩
 ·exact⟨.t h,stp⟩
theorem zEY{xq:RQ}{n:Int}{w:World}(V:QyV w xq q)(Q:q.words.length<=1000000)(R:∀s∈q.words,s.size<=1000000):
  Sp PP 125 #[agg xq,.int .i64 n] w λv w'=>((QyIs q n/\v=.int .i64 0)\/(¬QyIs q n/\v=.int .i64 180))/\Stp w w':=by
 obtain⟨H,I,J,K,L,M⟩:=V;obtain⟨x1,x2,x3,⟨N,S,O⟩,x4,x5⟩:=xq;simp only at H I J L M;subst H I J L M;have D:S=q.words.length:=K.len;subst D;have A:agg (⟨q.kind,q.frm,q.to,⟨N,q.words.length,O⟩,q.rad,q.most⟩:RQ)=.agg #[.int .i64 q.kind,.int .i64 q.frm,.int .i64 q.to,.slice N q.words.length O,.int .i64 q.rad,.int .i64 q.most]:=rfl;rw [A];refine eN ?_;refine rbx λbq w1 n1 c=>rbx λbn w2 n2 o=>?_;have d:¬QyIs q n->∀u:World,Stp w u->((QyIs q n/\Value.int .i64 180=.int .i64 0)\/(¬QyIs q n/\Value.int .i64 180=.int .i64 180))/\Stp w u:=λh u s=>⟨.inr ⟨h,rfl⟩,s⟩;have t:QyIs q n->∀u:World,Stp w u->((QyIs q n/\Value.int .i64 0=.int .i64 0)\/(¬QyIs q n/\Value.int .i64 0=.int .i64 180))/\Stp w u:=λh u s=>⟨.inl ⟨h,rfl⟩,s⟩;refine rX c rfl (ite (λT=>?_) (λT=>?_))
 ·refine rX c rfl (rcall (zAr (o.mv (w:=w2))) ?_);rintro _ _ ⟨⟨rfl,e⟩|⟨rfl,e⟩,rfl⟩
  case' inr=>exact d (λh=>e h.2.1) _ stp
  refine rX c rfl (rcall (zAr (o.mv (w:=_))) ?_);rintro _ _ ⟨⟨rfl,f⟩|⟨rfl,f⟩,rfl⟩
  ·exact t ⟨by omega,e,λ_=>f,λh=>absurd h (by omega)⟩ _ stp
  ·exact d (λh=>f (h.2.2.1 (by omega))) _ stp
 refine ite (λU=>?_) (λU=>?_)
 ·refine rX c rfl (rcall (zAr (o.mv (w:=w2))) ?_);rintro _ _ ⟨⟨rfl,e⟩|⟨rfl,e⟩,rfl⟩
  case' inr=>exact d (λh=>e h.2.1) _ stp
  refine rX c rfl (rcall (zAr (o.mv (w:=_))) ?_);rintro _ _ ⟨⟨rfl,f⟩|⟨rfl,f⟩,rfl⟩
  ·exact t ⟨by omega,e,λ_=>f,λh=>absurd h (by omega)⟩ _ stp
  ·exact d (λh=>f (h.2.2.1 (by omega))) _ stp
 refine ite (λl=>?_) (λl=>d (λh=>by have:=h.1;omega) _ stp);refine rX c rfl (ite (λW=>?_) (λW=>?_))
 case' refine_2 =>
  have b:¬QyIs q n:=λh=>by have:=(h.2.2.2 l).1;omega
  refine rX c rfl (rcall (zAr (o.mv (w:=_))) ?_);rintro _ _ ⟨⟨rfl,e⟩|⟨rfl,e⟩,rfl⟩
  ·exact d b _ stp
  ·exact d b _ stp
 refine rX c rfl (ite (λe=>?_) (λe=>?_))
 case' refine_2 =>
  have b:¬QyIs q n:=λh=>by have:=(h.2.2.2 l).1;omega
  refine rX c rfl (rcall (zAr (o.mv (w:=_))) ?_);rintro _ _ ⟨⟨rfl,e⟩|⟨rfl,e⟩,rfl⟩
  ·exact d b _ stp
  ·exact d b _ stp
 refine rX c rfl (rcall (zBE (g:=227) (first:=[]) (cap:=[]) (p:=λs=>¬WordB s) (K.up (w':=w2)) Q (λr u1 X _=>zHS (R r X))) ?_);rintro _ Y ⟨⟨rfl,f⟩|⟨rfl,f⟩,e3⟩
 ·have b:¬QyIs q n:=λh=>by
   obtain⟨y,Z,C⟩:=f;exact C ((h.2.2.2 l).2.2.2 y Z)
  refine rX c rfl (rcall (zAr (o.mv (w:=_))) ?_);rintro _ _ ⟨⟨rfl,e⟩|⟨rfl,e⟩,rfl⟩
  ·exact d b _ stp
  ·exact d b _ stp
 have E:∀s∈q.words,WordB s:=λs h=>Classical.byContradiction λhn=>f ⟨s,h,hn⟩;refine rX c rfl (rcall (zAr (o.mv (w:=Y))) ?_);rintro _ _ ⟨⟨rfl,C⟩|⟨rfl,C⟩,rfl⟩
 case' inr=>exact d (λh=>C h.2.1) _ stp
 refine rX c rfl (ite (λF=>?_) (λF=>d (λh=>F (h.2.2.2 l).2.1.1) _ stp));refine rX c rfl (ite (λG=>?_) (λG=>d (λh=>G (h.2.2.2 l).2.1.2) _ stp));refine rX c rfl (ite (λx=>?_) (λx=>d (λh=>x (h.2.2.2 l).2.2.1.1) _ stp));refine rX c rfl (ite (λz=>?_) (λz=>d (λh=>z (h.2.2.2 l).2.2.1.2) _ stp));exact t ⟨.inr (.inr l),C,λh=>absurd h (by omega),λ_=>⟨by omega,⟨F,G⟩,⟨x,z⟩,E⟩⟩ _ stp
abbrev FrB (w:World) (b:Nat) (s:List UInt8) (A:Nat):Prop:=Bk w b [txt s,.int .i64 (A:Int)] 228
theorem zBU{A b:Nat}{w:World}(B:FrB w b s A)(l:s.length<=4611686018427387904):
  SpP PP 77 #[.pointer (some ⟨b,0,none⟩)] w (λv w'=>∃n h:Nat,RdsV rdN s A n h/\v=.int .i64 (n:Int)/\FrB w' b s h/\Fr (λi=>i=b) w w')
   (λc w'=>c=PanF/\rdN (s.drop A)=none/\Fr (λi=>i=b) w w'):=
 (zDI B l).mono (λv w' ⟨n,d,e,f,o⟩=>⟨n,_,rdn_of d,e,f,o⟩) (λc w' ⟨d,e,f⟩=>⟨d,rdn_no e,f⟩)
theorem zHB{A b:Nat}{w:World}(B:FrB w b s A)(p:s.length<=4611686018427387904):
  SpP PP 78 #[.pointer (some ⟨b,0,none⟩),.int .i64 (m:Int)] w (λv w'=>∃n e:Nat,RdsV rdN s A n e/\n<=m/\v=.int .i64 (n:Int)/\FrB w' b s e/\Fr (λi=>i=b) w w')
   (λc w'=>c=PanF/\(∀n t,rdN (s.drop A)=some (n,t)->¬n<=m)/\Fr (λi=>i=b) w w'):=by
 refine enP TBok rfl ?_;refine rcallP (zBU B p) ?_ ?_
 ·rintro _ r ⟨n,e,d,rfl,x,f⟩;refine ite (λh=>?_) (λh=>?_)
  ·refine rcallP zAh ?_ ?_
   ·rintro _ y ⟨_,rfl,rfl⟩;exact⟨n,e,d,by omega,rfl,x,f⟩
   ·rintro _ z ⟨h,_⟩;cases h
  ·refine rcallP zAh ?_ ?_
   ·rintro _ z ⟨h,_⟩;cases h
   ·rintro _ y ⟨_,rfl,rfl⟩;refine⟨rfl,λk t o=>?_,f⟩;rw [d.2] at o;cases o;omega
 ·rintro _ r ⟨rfl,l,f⟩;exact⟨rfl,(λn t d=>by rw [l] at d;cases d),f⟩
theorem zHC{A b:Nat}{w:World}(B:FrB w b s A)(p:s.length<=4611686018427387904):
  SpP PP 143 #[.pointer (some ⟨b,0,none⟩)] w (λv w'=>∃x f,RdsV rdT s A x f/\v=txt x/\FrB w' b s f/\Fr (λi=>i=b) w w')
   (λc w'=>c=PanF/\rdT (s.drop A)=none/\Fr (λi=>i=b) w w'):=by
 refine enP TBok rfl ?_;refine dQ 16 λC D=>tX B rfl nf (tX B rfl nf (rcall (zDi (A:=A) p) ?_));rintro v E ⟨⟨x,f,r,rfl⟩|⟨l,rfl⟩,o⟩
 ·refine⟨o.e,?_⟩;refine rcallP zAh ?_ ?_
  ·rintro _ d ⟨_,rfl,rfl⟩;have t:=B.mv (w:=d);refine rS t [.int .i64 _] (int_o _) λF y z _=>?_;exact⟨x,f,r,rfl,y,(fE w d).trans z⟩
  ·rintro _ d ⟨h,_⟩;cases h
 ·refine⟨o.e,?_⟩;refine rcallP zAh ?_ ?_
  ·rintro _ d ⟨h,_⟩;cases h
  ·rintro _ d ⟨_,rfl,rfl⟩;exact⟨rfl,l,fE w d⟩
theorem panR'{e:List ResultVar}{F:Nat->Value}{c:List PanicEntry}{R:Value->World->Prop}{b:List PanicEntry->World->Prop}{w:World}{d:Value}(h0:F 4294967296=d)(hd:decD d=[])(h:b c w):panS P e R b F c w:=by
 unfold panS;rw [h0,hd];exact h
theorem zQg{r:List UInt8}(h:rdN r=none):rdQ k r=none:=by unfold rdQ;rw [h]
theorem rdQ_2{a:Nat}{r c:List UInt8}(h:rdN r=some (a,c))(d:k<=2):rdQ k r=match rdN c with
  |none=>none
  |some (b,e)=>some (⟨k,a,b,[],0,0⟩,e):=by unfold rdQ;rw [h];simp only;rw [if_pos d];rfl
theorem rdQ_3{a:Nat}{r b:List UInt8}(h:rdN r=some (a,b))(c:¬k<=2):rdQ k r=match rdWs b with
  |none=>none
  |some (d,e)=>match rdN e with
   |none=>none
   |some (x,f)=>match rdN f with
    |none=>none
    |some (y,l)=>some (⟨k,a,0,d.map bsOf,x,y⟩,l):=by unfold rdQ;rw [h];simp only;rw [if_neg c];rfl
def QyO (B:Nat) (w:World) (x:RQ) (q:QyD):Prop:=x.kind=q.kind/\x.frm=q.frm/\x.to=q.to/\Own B 9 w x.words.v q.words/\x.rad=q.rad/\x.most=q.most
abbrev QrT (s:List UInt8) (A b kind:Nat) (w:World) (v:Value) (w':World):Prop:=∃q A' x,RdsV (rdQ kind) s A q A'/\v=agg x/\QyO w.heap.size w' x q/\FrB w' b s A'/\Fr (λi=>i=b) w w'
theorem zLH{A b kind:Nat}{w:World}(B:FrB w b s A)(hs:s.length<=4611686018427387904):
  SpP PP 79 #[.pointer (some ⟨b,0,none⟩),.int .i64 (kind:Int)] w (λv w'=>QrT s A b kind w v w')
   (λc w'=>c=PanF/\rdQ kind (s.drop A)=none/\Fr (λi=>i=b) w w'):=by
 have b8:=B.lt;refine enP TBok rfl ?_;refine ral λbr w1 n1 R1=>?_;have b9:=n1.b;have c0:=n1.s;refine rcallP (zBU (B.mv (w:=w1)) hs) ?_ ?_
 case' refine_2 =>
  rintro _ w2 ⟨rfl,r,f2⟩;exact⟨rfl,zQg r,(Fr.fr n1.e).trans f2⟩
 rintro _ w2 ⟨a,A2,b0,rfl,B2,f2⟩;have R2:=R1.fr f2 (by omega);have z2:=f2.size;refine rbuild (cs:=[.int .i64 (kind:Int),.int .i64 (a:Int),.int .i64 0,.slice none 0 0,.int .i64 0,.int .i64 0]) rfl (ral λbq w3 n3 Q3=>?_);have c1:=n3.b;have c2:=n3.s;refine rS Q3 [.int .i64 (kind:Int),.int .i64 (a:Int),.int .i64 0,.slice none 0 0,.int .i64 0,.int .i64 0] (by intro u H;simp at H;rcases H with rfl|rfl|rfl|rfl|rfl|rfl <;> rfl) λw4 Q4 f4 _=>?_;have Q4:Bk w4 bq [.int .i64 (kind:Int),.int .i64 (a:Int),.int .i64 0,.slice none 0 0,.int .i64 0,.int .i64 0] 53:=Q4;have lq:=Q4.lt;have c3:=f4.size;have I:¬br=bq:=by omega
 have J:¬b=bq:=by omega
 have R4:=(R2.mv (w:=w3)).fr f4 I;have B4:FrB w4 b s A2:=(B2.mv (w:=w3)).fr f4 J;have F4:Fr (λi=>i=b) w w4:=Fr.st' ((((Fr.fr n1.e).trans f2).trans (Fr.fr n3.e))) f4 λi hi=>by omega
 have c4:=R1.lt;refine ite (λh1=>?_) (λh1=>?_)
 ·have a0:kind<=2:=by omega
  have e2:=rdQ_2 b0.2 a0;refine rcallP (zBU B4 hs) ?_ ?_
  case' refine_2 =>
   rintro _ w5 ⟨rfl,r,Q⟩;exact⟨rfl,by rw [e2,r],F4.trans Q⟩
  rintro _ w5 ⟨c5,U,R,rfl,B5,Q⟩;refine rS (Q4.fr Q (by omega)) [.int .i64 (c5:Int)] (int_o _) λw6 K l _=>?_;have K:Bk w6 bq [.int .i64 (kind:Int),.int .i64 (a:Int),.int .i64 (c5:Int),.slice none 0 0,.int .i64 0,.int .i64 0] 53:=K;refine rldG (ds:=[.int .i64 (kind:Int),.int .i64 (a:Int),.int .i64 (c5:Int),.slice none 0 0,.int .i64 0,.int .i64 0]) (B:=K) rfl rfl ?_;have R6:=(R4.fr Q (by omega)).fr l I;refine rS R6 [.int .i64 (kind:Int),.int .i64 (a:Int),.int .i64 (c5:Int),.slice none 0 0,.int .i64 0,.int .i64 0] (by intro u H;simp at H;rcases H with rfl|rfl|rfl|rfl|rfl|rfl <;> rfl) λw7 R7 f7 _=>?_;have R7:Bk w7 br [.int .i64 (kind:Int),.int .i64 (a:Int),.int .i64 (c5:Int),.slice none 0 0,.int .i64 0,.int .i64 0] 53:=R7;have B7:FrB w7 b s U:=(B5.fr l J).fr f7 (by omega);have F7:Fr (λi=>i=b) w w7:=Fr.st' (Fr.st' (F4.trans Q) l λi hi=>by omega) f7 λi hi=>by omega
  refine rresG (B:=R7) rfl ?_;exact⟨⟨kind,a,c5,[],0,0⟩,U,⟨kind,a,c5,⟨none,0,0⟩,0,0⟩,⟨R.1,by rw [e2,R.2]⟩,rfl,⟨rfl,rfl,rfl,Own.nil _ _ _,rfl,rfl⟩,B7,F7⟩
 ·have a0:¬kind<=2:=by omega
  have e3:=rdQ_3 b0.2 a0;refine rcallP (zHB (m:=8) B4 hs) ?_ ?_
  case' refine_2 =>
   rintro _ w5 ⟨rfl,r,Q⟩;refine⟨rfl,?_,F4.trans Q⟩
   have:rdWs (s.drop A2)=none:=by
    unfold rdWs
    cases h:rdN (s.drop A2) with
    |none=>rfl
    |some p=>obtain⟨n,t⟩:=p;simp only;rw [if_neg (r n t h)]
   rw [e3,this]
  rintro _ w5 ⟨N,U,R,hN,rfl,B5,Q⟩;have ew:rdWs (s.drop A2)=rdMany rdT N (s.drop U):=by unfold rdWs;rw [R.2];simp only;rw [if_pos hN]
  have c6:=B.lt;have Q5:=Q4.fr Q (by omega);have R5:Bk w5 br (Value.cells (.agg #[.int .i64 0,.int .i64 0,.int .i64 0,.slice none 0 0,.int .i64 0,.int .i64 0])).toList 53:=R4.fr Q (by omega);have z5:=Q.size;have h5:U<=s.length:=R.1
  refine cN 18 [] 18 N (λk u=>∃(Ak:Nat) (d:List (List UInt8)) (V:Option Addr) (W:Nat),d.length=k/\preR d (rdMany rdT (N - k) (s.drop Ak))=rdMany rdT N (s.drop U)/\Ak<=s.length/\FrB u b s Ak/\Bk u bq [.int .i64 (kind:Int),.int .i64 (a:Int),.int .i64 0,.slice V (d.map bsOf).length W,.int .i64 0,.int .i64 0] 53/\Own w5.heap.size 9 u (.slice V (d.map bsOf).length W) (d.map bsOf)/\Bk u br (Value.cells (.agg #[.int .i64 0,.int .i64 0,.int .i64 0,.slice none 0 0,.int .i64 0,.int .i64 0])).toList 53/\Fr (λi=>i=b) w u/\w5.heap.size<=u.heap.size)
   ⟨U,[],none,0,rfl,by rw [zBP];simp,h5,B5,by simpa using Q5,by simpa using Own.nil _ _ _,R5,F4.trans Q,Qe _⟩ ?_
  rintro k G u hk ⟨Ak,d,V,W,a1,C,c7,Bu,Qu,Ou,Ru,Fu,zu⟩;refine ite (λhlt=>?_) (λc9=>?_)
  ·have a4:k<N:=by omega
   have e0:N - k=(N - (k+1))+1:=by omega
   rw [e0] at C;have b3:=Qu.lt;refine dT (λ_=>True) (.one 0 (.one 2 (.duo 1 (oL [3,4,5,6,7] .nil) 3 (.duo 1 (oL [4,5,6,7] .nil) 4 (.lone 1 (oL [5,6,7] .nil)))))) λX e1=>?_;have BX:FrB X b s Ak:=Bk.mv (w:=X) Bu;have EX:=e1.e;refine⟨?_,?_⟩
   ·refine rX Qu rfl ⟨Fr.refl _ _,?_⟩;refine rcallP (zHC (A:=Ak) BX hs) ?_ ?_
    case' refine_2 =>
     rintro _ L ⟨rfl,r,l⟩
     have a5:rdWs (s.drop A2)=none:=by
      rw [ew,<-C,zA7 r];rfl
     have o:PanF=PanF/\rdQ kind (s.drop A)=none/\Fr (λi=>i=b) w L:=⟨rfl,by rw [e3,a5],(Fu.trans (Fr.fr EX)).trans l⟩;intro F' ag;show panS PP _ _ (λc w'=>c=PanF/\rdQ kind (s.drop A)=none/\Fr (λi=>i=b) w w') F' PanF L;exact panR' (ag 4294967296 rfl) rfl o
    rintro _ L ⟨x,M,hr,rfl,B6,l⟩;refine⟨Fr.mono l λ_ _ _=>trivial,?_⟩;have K:=(Bk.mv (w:=X) Qu).fr l (by omega);have R6:=(Bk.mv (w:=X) Ru).fr l (by omega);have F:=(Own.up (w':=X) Ou).frc l BX;have z6:=l.size;have z1:=lz u X;refine bS (bsOf x) λb7 f E _ S7=>⟨Fr.fr E.e,?_⟩;have Y:=K.mv (w:=f);have z7:=lz L f;refine rappB ⟨rfl,rfl⟩ (F.up (w':=f)) S7 (by omega) (by simp;omega) λv8 u8 O z=>⟨Fr.mono z λ_ _ _=>trivial,?_⟩;have S:=Y.fro (F.up (w':=f)) z;have R8:=(R6.mv (w:=f)).fro (F.up (w':=f)) z;have B8:FrB u8 b s M:=(Bk.mv (w:=f) B6).fro (F.up (w':=f)) z;have z8:=z.size;have em:(d.map bsOf)++[bsOf x]=(d++[x]).map bsOf:=by rw [QB];rfl
    rw [em] at O;have q8:=O.shape;obtain⟨a8,c8,rfl⟩:=q8;refine rS S [.slice a8 ((d++[x]).map bsOf).length c8] (by intro u H;simp at H;subst H;rfl) λu9 Z D _=>⟨Fr.mono D λ_ _ _=>trivial,?_⟩;have B9:FrB u9 b s M:=B8.fr D (by omega);have F9:Fr (λi=>i=b) w u9:=Fr.st' (Fr.st' (((Fu.trans (Fr.fr EX)).trans l).trans (Fr.fr E.e)) z λi hi=>by have:=hi.1;omega) D λi hi=>by omega
    have T:preR (d++[x]) (rdMany rdT (N - (k+1)) (s.drop M))=rdMany rdT N (s.drop U):=by rw [<-C];exact(zAF hr.2 d).symm
    exact rA ⟨rfl,a4,M,d++[x],a8,c8,by simp [a1],T,hr.1,B9,Z,O.frc D S,R8.fr D (by omega),F9,by omega⟩
   ·refine rcallP (zHC (A:=Ak) BX hs) ?_ ?_
    case' refine_2 =>
     rintro _ L ⟨rfl,r,l⟩
     have a5:rdWs (s.drop A2)=none:=by
      rw [ew,<-C,zA7 r];rfl
     have o:PanF=PanF/\rdQ kind (s.drop A)=none/\Fr (λi=>i=b) w L:=⟨rfl,by rw [e3,a5],(Fu.trans (Fr.fr EX)).trans l⟩;intro F' ag;show panS PP _ _ (λc w'=>c=PanF/\rdQ kind (s.drop A)=none/\Fr (λi=>i=b) w w') F' PanF L;exact panR' (ag 4294967296 rfl) rfl o
    rintro _ L ⟨x,M,hr,rfl,B6,l⟩;refine⟨Fr.mono l λ_ _ _=>trivial,?_⟩;have K:=(Bk.mv (w:=X) Qu).fr l (by omega);have R6:=(Bk.mv (w:=X) Ru).fr l (by omega);have F:=(Own.up (w':=X) Ou).frc l BX;have z6:=l.size;have z1:=lz u X;refine⟨?_,?_⟩
    ·refine rX K rfl ⟨Fr.refl _ _,?_⟩;refine bS (bsOf x) λb7 f E _ S7=>⟨Fr.fr E.e,?_⟩;have Y:=K.mv (w:=f);have z7:=lz L f;refine rappB ⟨rfl,rfl⟩ (F.up (w':=f)) S7 (by omega) (by simp;omega) λv8 u8 O z=>⟨Fr.mono z λ_ _ _=>trivial,?_⟩;have S:=Y.fro (F.up (w':=f)) z;have R8:=(R6.mv (w:=f)).fro (F.up (w':=f)) z;have B8:FrB u8 b s M:=(Bk.mv (w:=f) B6).fro (F.up (w':=f)) z;have z8:=z.size;have em:(d.map bsOf)++[bsOf x]=(d++[x]).map bsOf:=by rw [QB];rfl
     rw [em] at O;have q8:=O.shape;obtain⟨a8,c8,rfl⟩:=q8;refine rS S [.slice a8 ((d++[x]).map bsOf).length c8] (by intro u H;simp at H;subst H;rfl) λu9 Z D _=>⟨Fr.mono D λ_ _ _=>trivial,?_⟩;have B9:FrB u9 b s M:=B8.fr D (by omega);have F9:Fr (λi=>i=b) w u9:=Fr.st' (Fr.st' (((Fu.trans (Fr.fr EX)).trans l).trans (Fr.fr E.e)) z λi hi=>by have:=hi.1;omega) D λi hi=>by omega
     have T:preR (d++[x]) (rdMany rdT (N - (k+1)) (s.drop M))=rdMany rdT N (s.drop U):=by rw [<-C];exact(zAF hr.2 d).symm
     exact rA ⟨rfl,a4,M,d++[x],a8,c8,by simp [a1],T,hr.1,B9,Z,O.frc D S,R8.fr D (by omega),F9,by omega⟩
    ·refine bS (bsOf x) λb7 f E _ S7=>⟨Fr.fr E.e,?_⟩;refine rX K rfl ⟨Fr.refl _ _,?_⟩;have Y:=K.mv (w:=f);have z7:=lz L f;refine rappB ⟨rfl,rfl⟩ (F.up (w':=f)) S7 (by omega) (by simp;omega) λv8 u8 O z=>⟨Fr.mono z λ_ _ _=>trivial,?_⟩;have S:=Y.fro (F.up (w':=f)) z;have R8:=(R6.mv (w:=f)).fro (F.up (w':=f)) z;have B8:FrB u8 b s M:=(Bk.mv (w:=f) B6).fro (F.up (w':=f)) z;have z8:=z.size;have em:(d.map bsOf)++[bsOf x]=(d++[x]).map bsOf:=by rw [QB];rfl
     rw [em] at O;have q8:=O.shape;obtain⟨a8,c8,rfl⟩:=q8;refine rS S [.slice a8 ((d++[x]).map bsOf).length c8] (by intro u H;simp at H;subst H;rfl) λu9 Z D _=>⟨Fr.mono D λ_ _ _=>trivial,?_⟩;have B9:FrB u9 b s M:=B8.fr D (by omega);have F9:Fr (λi=>i=b) w u9:=Fr.st' (Fr.st' (((Fu.trans (Fr.fr EX)).trans l).trans (Fr.fr E.e)) z λi hi=>by have:=hi.1;omega) D λi hi=>by omega
     have T:preR (d++[x]) (rdMany rdT (N - (k+1)) (s.drop M))=rdMany rdT N (s.drop U):=by rw [<-C];exact(zAF hr.2 d).symm
     exact rA ⟨rfl,a4,M,d++[x],a8,c8,by simp [a1],T,hr.1,B9,Z,O.frc D S,R8.fr D (by omega),F9,by omega⟩
  ·have q_:k=N:=by omega
   obtain rfl:=q_;rw [JN] at C;have a6:rdWs (s.drop A2)=some (d,s.drop Ak):=by rw [ew,<-C];simp [rdMany,preR]
   have b3:=Qu.lt;have d0:=Ru.lt;refine rcallP (zBU Bu hs) ?_ ?_
   case' refine_2 =>
    rintro _ L ⟨rfl,r,l⟩;have o:PanF=PanF/\rdQ kind (s.drop A)=none/\Fr (λi=>i=b) w L:=⟨rfl,by rw [e3,a6];simp only;rw [r],Fu.trans l⟩;exact o
   rintro _ L ⟨x,A6,b1,rfl,B6,l⟩;have K:=Qu.fr l (by omega);have R6:=Ru.fr l (by omega);have F:=Ou.frc l Bu;refine rS K [.int .i64 (x:Int)] (int_o _) λf Y f7 _=>?_;have Y:Bk f bq [.int .i64 (kind:Int),.int .i64 (a:Int),.int .i64 0,.slice V (d.map bsOf).length W,.int .i64 (x:Int),.int .i64 0] 53:=Y;have B7:FrB f b s A6:=B6.fr f7 J;have R7:=R6.fr f7 I;have O7:=F.frc f7 K;have F7:Fr (λi=>i=b) w f:=Fr.st' (Fu.trans l) f7 λi hi=>by omega
   refine rcallP (zBU B7 hs) ?_ ?_
   case' refine_2 =>
    rintro _ u4 ⟨rfl,r,z⟩;have o:PanF=PanF/\rdQ kind (s.drop A)=none/\Fr (λi=>i=b) w u4:=⟨rfl,by rw [e3,a6];simp only;rw [b1.2];simp only;rw [r],F7.trans z⟩;exact o
   rintro _ u4 ⟨y,A8,b2,rfl,B8,z⟩;have S:=Y.fr z (by omega);have R8:=R7.fr z (by omega);have O:=O7.frc z B7;refine rS S [.int .i64 (y:Int)] (int_o _) λu5 Z D _=>?_;have Z:Bk u5 bq [.int .i64 (kind:Int),.int .i64 (a:Int),.int .i64 0,.slice V (d.map bsOf).length W,.int .i64 (x:Int),.int .i64 (y:Int)] 53:=Z;have B9:FrB u5 b s A8:=B8.fr D J;have R9:=R8.fr D I;have O9:=O.frc D S;refine rG Z (⟨kind,a,0,⟨V,(d.map bsOf).length,W⟩,x,y⟩:RQ) (rE R9 (⟨kind,a,0,⟨V,(d.map bsOf).length,W⟩,x,y⟩:RQ) λu6 a7 a9 _=>?_);have a7:Bk u6 br (enc (⟨kind,a,0,⟨V,(d.map bsOf).length,W⟩,x,y⟩:RQ)) 53:=a7;have b4:FrB u6 b s A8:=B9.fr a9 (by omega);have b5:=O9.frc a9 R9;have b6:Fr (λi=>i=b) w u6:=Fr.st' (Fr.st' (F7.trans z) D λi hi=>by omega) a9 λi hi=>by omega
   refine rresG (B:=a7) rfl ?_;have o:QrT s A b kind w (agg (⟨kind,a,0,⟨V,(d.map bsOf).length,W⟩,x,y⟩:RQ)) u6:=⟨⟨kind,a,0,d.map bsOf,x,y⟩,A8,⟨kind,a,0,⟨V,(d.map bsOf).length,W⟩,x,y⟩,⟨b2.1,by rw [e3,a6];simp only;rw [b1.2];simp only;rw [b2.2]⟩,rfl,⟨rfl,rfl,rfl,b5.mono (by omega),rfl,rfl⟩,b4,b6⟩;exact o
structure RqV (w:World) (x:RReq) (d:RqD):Prop where
 id:x.id=d.id
 kind:x.kind=d.kind
 q:QyV w x.q d.q
theorem RqV.up{w:World}[Le w w']{x:RReq}{d:RqD}(h:RqV w x d):RqV w' x d:=⟨h.id,h.kind,h.q.up⟩
def RqZ (x:RqD):Prop:=if x.kind=4 then x.q=zQy else if x.kind=3 then x.q.to=0 else x.q.words=[]/\x.q.rad=0/\x.q.most=0
theorem zEU{x:RReq}{d:RqD}{w:World}(V:RqV w x d):Sp PP 144 #[agg x] w λv w'=>Tells (RqZ d) v/\Stp w w':=by
 obtain⟨Q,R,⟨S,T,U,kw,W,X⟩⟩:=V;obtain⟨D,E,⟨x1,y,o,⟨F,wn,G⟩,p,r⟩⟩:=x;obtain⟨di,dk,⟨d1,d2,d3,h,d4,d5⟩⟩:=d;simp only at Q R S T U W X;subst Q R S T U W X;have M:wn=h.length:=kw.len;subst M;have H:agg (⟨D,E,⟨x1,y,o,⟨F,h.length,G⟩,p,r⟩⟩:RReq)=.agg #[.int .i64 D,.int .i64 E,.int .i64 x1,.int .i64 y,.int .i64 o,.slice F h.length G,.int .i64 p,.int .i64 r]:=rfl;rw [H];have I:h.length=0↔h=[]:=XB;refine eN ?_;refine rbx λb w1 n1 K=>rldG (ds:=[.int .i64 x1,.int .i64 y,.int .i64 o,.slice F h.length G,.int .i64 p,.int .i64 r]) (B:=K) rfl rfl (ral λb2 w2 n2 Y=>?_);have a0:=n1.b;have a1:=n1.s;have a4:=n2.b;have a5:=n2.s;refine rS Y [.int .i64 x1,.int .i64 y,.int .i64 o,.slice F h.length G,.int .i64 p,.int .i64 r] (by intro u Z;simp at Z;rcases Z with rfl|rfl|rfl|rfl|rfl|rfl <;> rfl) λw3 l N _=>?_;have l:Bk w3 b2 [.int .i64 x1,.int .i64 y,.int .i64 o,.slice F h.length G,.int .i64 p,.int .i64 r] 53:=l;have s3:Stp w w3:=⟨Fr.st (lE w w2) N λi hi=>by omega⟩;have K:=(K.mv (w:=w2)).fr N (by omega);clear Y N;refine rX K rfl (ite (λL=>?_) (λL=>?_))
 ·have c:RqZ ⟨D,E,⟨x1,y,o,h,p,r⟩⟩↔(x1=0/\y=0/\o=0/\h=[]/\p=0/\r=0):=by
   unfold RqZ zQy;simp only;rw [if_pos L];simp only [QyD.mk.injEq]
  refine rX l rfl (ite (λz=>?_) (λz=>⟨.f λm=>z (c.1 m).1,stp⟩));refine rX l rfl (ite (λA=>?_) (λA=>⟨.f λm=>A (c.1 m).2.1,stp⟩));refine rX l rfl (ite (λO=>?_) (λO=>⟨.f λm=>O (c.1 m).2.2.1,stp⟩));refine rX l rfl (ite (λJ=>?_) (λJ=>⟨.f λm=>J (by rw [(c.1 m).2.2.2.1];rfl),stp⟩));refine rX l rfl (ite (λC=>?_) (λC=>⟨.f λm=>C (c.1 m).2.2.2.2.1,stp⟩));refine rX l rfl (ite (λe=>?_) (λe=>⟨.f λm=>e (c.1 m).2.2.2.2.2,stp⟩));exact⟨.t (c.2 ⟨z,A,O,I.1 (by omega),C,e⟩),stp⟩
 refine ite (λz=>?_) (λz=>?_)
 ·have c:RqZ ⟨D,E,⟨x1,y,o,h,p,r⟩⟩↔o=0:=by unfold RqZ;simp only;rw [if_neg L,if_pos z]
  refine rX l rfl ?_;exact ite (λA=>⟨.t (c.2 A),stp⟩) (λA=>⟨.f λm=>A (c.1 m),stp⟩)
 have c:RqZ ⟨D,E,⟨x1,y,o,h,p,r⟩⟩↔(h=[]/\p=0/\r=0):=by unfold RqZ;simp only;rw [if_neg L,if_neg z]
 refine rX l rfl (ite (λJ=>?_) (λJ=>⟨.f λm=>J (by rw [(c.1 m).1];rfl),stp⟩));refine rX l rfl (ite (λC=>?_) (λC=>⟨.f λm=>C (c.1 m).2.1,stp⟩));refine rX l rfl (ite (λe=>?_) (λe=>⟨.f λm=>e (c.1 m).2.2,stp⟩));exact⟨.t (c.2 ⟨I.1 (by omega),C,e⟩),stp⟩
theorem zFm{x:RReq}{d:RqD}{w:World}(V:RqV w x d)(F:d.q.words.length<=1000000)(G:∀s∈d.q.words,s.size<=1000000):Sp PP 81 #[agg x] w λv w'=>Tells (RqIs d) v/\Stp w w':=by
 obtain⟨e,o,z⟩:=V;refine eN ?_;refine rbx λb w1 n1 l=>rX l rfl (ite (λC=>?_) (λC=>?_))
 ·have p:d.kind=4\/d.q.kind=d.kind/\QyIs d.q 200:=.inl (by rw [<-o];exact C);have A:∃u,u=w1:=⟨_,rfl⟩;obtain⟨u,H⟩:=A;subst H;refine rX l rfl (ite (λr=>?_) (λr=>⟨.f λm=>r (by rw [e];exact m.2.1.1),stp⟩));refine rX l rfl (ite (λy=>?_) (λy=>⟨.f λm=>y (by rw [e];exact m.2.1.2),stp⟩));refine rldG (ds:=enc x) (B:=l) rfl (Enc.len x) (rcall (zEU (d:=d) ⟨e,o,z.up (w':=u)⟩) ?_);rintro v I ⟨c,J⟩;refine⟨?_,stp⟩;rcases c with ⟨rfl,c⟩|⟨rfl,c⟩
  ·exact .t ⟨p,⟨by rw [<-e];exact r,by rw [<-e];exact y⟩,c⟩
  ·exact .f λm=>c m.2.2
 refine rX l rfl (rX l rfl ?_);refine ite (λD=>?_) (λD=>?_)
 ·refine rldG (ds:=enc x.q) (B:=l) rfl (Enc.len x.q) (rcall (zEY (n:=200) (z.up (w':=w1)) F G) ?_);rintro _ u ⟨⟨E,rfl⟩|⟨E,rfl⟩,K⟩
  ·have p:d.kind=4\/d.q.kind=d.kind/\QyIs d.q 200:=.inr ⟨by rw [<-o,<-z.kind];exact D,E⟩;refine iT rfl (rX l rfl (ite (λr=>?_) (λr=>⟨.f λm=>r (by rw [e];exact m.2.1.1),stp⟩)));refine rX l rfl (ite (λy=>?_) (λy=>⟨.f λm=>y (by rw [e];exact m.2.1.2),stp⟩));refine rldG (ds:=enc x) (B:=l) rfl (Enc.len x) (rcall (zEU (d:=d) ⟨e,o,z.up (w':=u)⟩) ?_);rintro v I ⟨c,J⟩;refine⟨?_,stp⟩;rcases c with ⟨rfl,c⟩|⟨rfl,c⟩
   ·exact .t ⟨p,⟨by rw [<-e];exact r,by rw [<-e];exact y⟩,c⟩
   ·exact .f λm=>c m.2.2
  ·refine iF (by decide) ?_
   exact⟨.f λm=>by
    have A:=m.1;rcases A with h|h
    ·exact C (by rw [o];exact h)
    ·exact E h.2,stp⟩
 ·exact⟨.f λm=>by
   have A:=m.1;rcases A with h|h
   ·exact C (by rw [o];exact h)
   ·exact D (by rw [z.kind,o];exact h.1),stp⟩
def RqO (B:Nat) (w:World) (x:RReq) (d:RqD):Prop:=x.id=d.id/\x.kind=d.kind/\QyO B w x.q d.q
theorem RqO.v{w:World}{x:RReq}{d:RqD}(h:RqO B w x d):RqV w x d:=⟨h.1,h.2.1,⟨h.2.2.1,h.2.2.2.1,h.2.2.2.2.1,h.2.2.2.2.2.1.sl,h.2.2.2.2.2.2.1,h.2.2.2.2.2.2.2⟩⟩
theorem zOp{r t:List UInt8}(h:rdQ k r=some (q,t)):q.words.length<=8/\∀s∈q.words,s.size<=4000:=by
 unfold rdQ at h;split at h
 ·cases h
 ·split at h
  ·split at h
   ·cases h
   ·cases h;simp
  ·split at h
   ·cases h
   ·rename_i f o b;split at h
    ·cases h
    ·split at h
     ·cases h
     ·cases h;have:=zEB b;refine⟨by simpa using this.1,λs c=>?_⟩;have d:=Qq.1 c;obtain⟨l,e,rfl⟩:=d;have:=this.2 l e;simpa [bsOf,ByteArray.size] using this
theorem rdR_1(h:rdN s=none):rdR s=none:=by unfold rdR;rw [h]
theorem rdR_2{b:List UInt8}{id:Nat}(h:rdN s=some (id,b)):rdR s=match rdN b with
  |none=>none
  |some (k,c)=>if k<=4 then (if k=4 then some (⟨id,4,zQy⟩,c) else match rdQ k c with
   |none=>none
   |some (q,d)=>some (⟨id,k,q⟩,d)) else none:=by unfold rdR;rw [h];rfl
abbrev zRq:RReq:=⟨0,0,⟨0,0,0,⟨none,0,0⟩,0,0⟩⟩
abbrev RpT (s:List UInt8) (b:Nat) (w:World) (v:Value) (w':World):Prop:=∃d A' x,RdsV rdR s 0 d A'/\RqIs d/\v=agg x/\RqO w.heap.size w' x d/\FrB w' b s A'/\Fr (λi=>i=b) w w'
abbrev RpN (s:List UInt8) (b:Nat) (w:World) (c:List PanicEntry) (w':World):Prop:=c=PanF/\(∀d t,rdR s=some (d,t)->¬RqIs d)/\Fr (λi=>i=b) w w'
theorem zDS{b:Nat}{w:World}(B:FrB w b s 0)(hs:s.length<=4611686018427387904):
  SpP PP 76 #[.pointer (some ⟨b,0,none⟩)] w (λv w'=>RpT s b w v w') (λc w'=>RpN s b w c w'):=by
 have a4:=B.lt;refine enP TBok rfl ?_;refine ral λbr w1 n1 R1=>?_;have a5:=n1.b;have a6:=n1.s;have R1:Bk w1 br (enc zRq) 55:=R1;refine rcallP (zBU (B.mv (w:=w1)) hs) ?_ ?_
 case' refine_2 =>
  rintro _ w2 ⟨rfl,E,V⟩;have f:RpN s b w PanF w2:=⟨rfl,(λd t h=>by rw [rdR_1 (by simpa using E)] at h;cases h),(Fr.fr n1.e).trans V⟩;exact f
 rintro _ w2 ⟨id,A2,a0,rfl,B2,V⟩;have R2:=R1.fr V (by omega);have z2:=V.size;refine rbuild (cs:=enc (⟨id,0,⟨0,0,0,⟨none,0,0⟩,0,0⟩⟩:RReq)) rfl (ral λbx w3 n3 X3=>?_);have a7:=n3.b;have a8:=n3.s;refine rS X3 (enc (⟨id,0,⟨0,0,0,⟨none,0,0⟩,0,0⟩⟩:RReq)) (Enc.one _) λw4 X4 f4 _=>?_;have X4:Bk w4 bx (enc (⟨id,0,⟨0,0,0,⟨none,0,0⟩,0,0⟩⟩:RReq)) 55:=X4;have a9:=R1.lt;have F:¬br=bx:=by omega
 have G:¬b=bx:=by omega
 have R4:=(R2.mv (w:=w3)).fr f4 F;have B4:FrB w4 b s A2:=(B2.mv (w:=w3)).fr f4 G;have F4:Fr (λi=>i=b) w w4:=Fr.st' ((((Fr.fr n1.e).trans V).trans (Fr.fr n3.e))) f4 λi hi=>by omega
 have z4:=f4.size;have e2:=rdR_2 (show rdN s=some (id,s.drop A2) by simpa using a0.2);refine rcallP (zHB (m:=4) B4 hs) ?_ ?_
 case' refine_2 =>
  rintro _ w5 ⟨rfl,E,R⟩
  have f:RpN s b w PanF w5:=by
   refine⟨rfl,λd t h=>?_,F4.trans R⟩;rw [e2] at h
   cases hn:rdN (s.drop A2) with
   |none=>rw [hn] at h;cases h
   |some p =>
    obtain⟨k,t'⟩:=p;rw [hn] at h;simp only at h;rw [if_neg (E k t' hn)] at h;cases h
  exact f
 rintro _ w5 ⟨k,W,X,hk,rfl,B5,R⟩
 have Y:rdR s=(if k=4 then some (⟨id,4,zQy⟩,s.drop W) else match rdQ k (s.drop W) with
   |none=>none
   |some (q,r3)=>some (⟨id,k,q⟩,r3)):=by rw [e2,X.2];simp only;rw [if_pos hk]
 have X5:=X4.fr R (by omega);have R5:=R4.fr R (by omega);have z5:=R.size;refine rS X5 [.int .i64 (k:Int)] (int_o _) λS T f6 _=>?_;have T:Bk S bx (enc (⟨id,k,⟨0,0,0,⟨none,0,0⟩,0,0⟩⟩:RReq)) 55:=T;have R6:=R5.fr f6 F;have B6:FrB S b s W:=B5.fr f6 G;have lx:=X4.lt;have F6:Fr (λi=>i=b) w S:=Fr.st' (F4.trans R) f6 λi hi=>by omega
 have z6:=f6.size;refine rX T rfl (ite (λh4=>?_) (λh4=>?_))
 ·dsimp only at h4;have J:¬k=4:=by omega
  rw [if_neg J] at Y;refine rX T rfl (rcallP (zLH (kind:=k) B6 hs) ?_ ?_)
  case' refine_2 =>
   rintro _ w7 ⟨rfl,E,U⟩;have f:RpN s b w PanF w7:=⟨rfl,(λd t h=>by rw [Y,E] at h;cases h),F6.trans U⟩;exact f
  rintro _ w7 ⟨q,A7,xq,K,rfl,Z,B7,U⟩;have z7:=U.size;have X7:=T.fr U (by omega);have R7:=R6.fr U (by omega);refine rS X7 (enc xq) (Enc.one _) λw8 X8 f8 _=>?_;have L:Bk w8 bx (enc (⟨id,k,xq⟩:RReq)) 55:=X8;have RU:=R7.fr f8 F;have BU:FrB w8 b s A7:=B7.fr f8 G;have FU:Fr (λi=>i=b) w w8:=Fr.st' (F6.trans U) f8 λi hi=>by omega
  have z8:=f8.size;have a1:w.heap.size<=S.heap.size:=by omega
  have l:RqO w.heap.size w8 (⟨id,k,xq⟩:RReq) ⟨id,k,q⟩:=⟨rfl,rfl,Z.1,Z.2.1,Z.2.2.1,(Z.2.2.2.1.frc f8 X7).mono a1,Z.2.2.2.2⟩;have o:RdsV rdR s 0 (⟨id,k,q⟩:RqD) A7:=⟨K.1,by rw [Jf,Y,K.2]⟩;have H:∃x,x=(⟨id,k,xq⟩:RReq):=⟨_,rfl⟩;obtain⟨x,hx⟩:=H;have H:∃d,d=(⟨id,k,q⟩:RqD):=⟨_,rfl⟩;obtain⟨d,hd⟩:=H;have H:∃y,y=A7:=⟨_,rfl⟩;obtain⟨AU,M⟩:=H
  have r:d.q.words.length<=1000000/\∀t∈d.q.words,t.size<=1000000:=by
   have h8:=zOp K.2;rw [hd];exact⟨Qw h8.1 (by decide),λt ht=>Qw (h8.2 t ht) (by decide)⟩
  rw [<-hx] at L l;rw [<-hd] at l o;rw [<-M] at BU o;have I:d.q.words.length<=1000000/\∀t∈d.q.words,t.size<=1000000:=r;refine rldG (ds:=enc x) (B:=L) rfl (Enc.len x) (rcall (zFm (d:=d) l.v I.1 I.2) ?_);rintro _ A ⟨⟨rfl,N⟩|⟨rfl,N⟩,e9⟩
  ·refine rcallP zAh ?_ ?_
   ·rintro _ A ⟨_,rfl,rfl⟩;have X9:=L.mv (w:=A);have R9:=RU.mv (w:=A);refine rldG (ds:=enc x) (B:=X9) rfl (Enc.len x) (rS R9 (enc x) (Enc.one _) λz C D _=>?_);have C:Bk z br (enc x) 55:=C;have O:FrB z b s AU:=(Bk.mv (w:=A) BU).fr D (by omega);have Q:Fr (λi=>i=b) w z:=Fr.st' (FU.trans (Fr.fr e9.e)) D λi hi=>by omega
    refine rresG (B:=C) rfl ?_;have f:RpT s b w (agg x) z:=⟨d,AU,x,o,N,rfl,⟨l.1,l.2.1,l.2.2.1,l.2.2.2.1,l.2.2.2.2.1,(l.2.2.2.2.2.1.up (w':=A)).frc D R9,l.2.2.2.2.2.2⟩,O,Q⟩;exact f
   ·rintro _ _ ⟨h,_⟩;cases h
  ·refine rcallP zAh ?_ ?_
   ·rintro _ _ ⟨h,_⟩;cases h
   ·rintro _ A ⟨_,rfl,rfl⟩
    have f:RpN s b w PanF A:=by
     refine⟨rfl,λd' t h hd=>?_,FU.trans (Fr.fr e9.e)⟩;have h2:=o.2;rw [Jf,h] at h2;cases h2;exact N hd
    exact f
 ·dsimp only at h4;have J:k=4:=by omega
  rw [if_pos J] at Y;have L:Bk S bx (enc (⟨id,k,⟨0,0,0,⟨none,0,0⟩,0,0⟩⟩:RReq)) 55:=T;have RU:=R6;have BU:=B6;have FU:=F6;have l:RqO w.heap.size S (⟨id,k,⟨0,0,0,⟨none,0,0⟩,0,0⟩⟩:RReq) ⟨id,4,zQy⟩:=⟨rfl,by rw [J];rfl,rfl,rfl,rfl,Own.nil _ _ _,rfl,rfl⟩;have o:RdsV rdR s 0 (⟨id,4,zQy⟩:RqD) W:=⟨X.1,by rw [Jf,Y]⟩;have H:∃x,x=(⟨id,k,⟨0,0,0,⟨none,0,0⟩,0,0⟩⟩:RReq):=⟨_,rfl⟩;obtain⟨x,hx⟩:=H;have H:∃d,d=(⟨id,4,zQy⟩:RqD):=⟨_,rfl⟩;obtain⟨d,hd⟩:=H;have H:∃y,y=W:=⟨_,rfl⟩;obtain⟨AU,M⟩:=H;have r:d.q.words.length<=1000000/\∀t∈d.q.words,t.size<=1000000:=by rw [hd];simp [zQy]
  rw [<-hx] at L l;rw [<-hd] at l o;rw [<-M] at BU o;have I:d.q.words.length<=1000000/\∀t∈d.q.words,t.size<=1000000:=r;refine rldG (ds:=enc x) (B:=L) rfl (Enc.len x) (rcall (zFm (d:=d) l.v I.1 I.2) ?_);rintro _ A ⟨⟨rfl,N⟩|⟨rfl,N⟩,e9⟩
  ·refine rcallP zAh ?_ ?_
   ·rintro _ A ⟨_,rfl,rfl⟩;have X9:=L.mv (w:=A);have R9:=RU.mv (w:=A);refine rldG (ds:=enc x) (B:=X9) rfl (Enc.len x) (rS R9 (enc x) (Enc.one _) λz C D _=>?_);have C:Bk z br (enc x) 55:=C;have O:FrB z b s AU:=(Bk.mv (w:=A) BU).fr D (by omega);have Q:Fr (λi=>i=b) w z:=Fr.st' (FU.trans (Fr.fr e9.e)) D λi hi=>by omega
    refine rresG (B:=C) rfl ?_;have f:RpT s b w (agg x) z:=⟨d,AU,x,o,N,rfl,⟨l.1,l.2.1,l.2.2.1,l.2.2.2.1,l.2.2.2.2.1,(l.2.2.2.2.2.1.up (w':=A)).frc D R9,l.2.2.2.2.2.2⟩,O,Q⟩;exact f
   ·rintro _ _ ⟨h,_⟩;cases h
  ·refine rcallP zAh ?_ ?_
   ·rintro _ _ ⟨h,_⟩;cases h
   ·rintro _ A ⟨_,rfl,rfl⟩
    have f:RpN s b w PanF A:=by
     refine⟨rfl,λd' t h hd=>?_,FU.trans (Fr.fr e9.e)⟩;have h2:=o.2;rw [Jf,h] at h2;cases h2;exact N hd
    exact f
theorem zGX{h:HitD}{w:World}:Sp PP 207 #[agg h] w λv w'=>Tells (¬HitOk h) v/\Stp w w':=by
 refine eN ?_;refine rbx λp w1 n1 b=>rX b rfl (ite (λc=>⟨.t (λe=>by have:=e.1;omega),stp⟩) (λc=>?_));refine rX b rfl (ite (λd=>⟨.t (λe=>by have:=e.2.1;omega),stp⟩) (λd=>?_));refine rX b rfl (ite (λl=>⟨.t (λe=>by have:=e.2.2.1;omega),stp⟩) (λl=>?_));refine rX b rfl (ite (λo=>⟨.t (λe=>by have:=e.2.2.2;omega),stp⟩) (λo=>⟨.f (λe=>e ⟨by omega,by omega,by omega,by omega⟩),stp⟩))
theorem zDk{c:Nat}{l:List HitD}{w:World}(h:SlF w (.slice a n c) l)(A:l.length<=1000000):
  Sp PP 292 #[.slice a n c,.func (.func 207) #[] #[]] w λv w'=>((∃k:Nat,v=.int .i64 (k:Int)/\∃y∈l,¬HitOk y)\/(v=.int .i64 (-1)/\∀y∈l,HitOk y))/\Stp w w':=by
 have f:=h.len;obtain rfl:=f;refine eN ?_;refine cN 9 [4,5] 8 l.length (λk u=>(∀y∈l.take k,HitOk y)/\Stp w u) ⟨by simp,stp⟩ ?_;rintro k g u C ⟨b,e⟩;refine ite (λhlt=>?_) (λr=>?_)
 ·have o:k<l.length:=by omega
  refine rix (h.up (w':=u)) (x:=l[k]) (by simp) λD E z=>rloadA z rfl (rcall (zGX (h:=l[k])) ?_);rintro _ F ⟨⟨rfl,p⟩|⟨rfl,p⟩,G⟩
  ·exact⟨.inl ⟨k,rfl,l[k],Qa _,p⟩,stp⟩
  ·refine rA ⟨rfl,o,λt d=>?_,stp⟩;rw [take_add o] at d;have f:=Qf.1 d;rcases f with d|d
   ·exact b t d
   ·rw [Qc.1 d];exact Q2.1 p
 ·have f:k=l.length:=by omega
  obtain rfl:=f;rw [Qj (Qe _)] at b;exact⟨.inr ⟨rfl,b⟩,stp⟩
theorem zBc{c:Nat}{l:List HitD}{w:World}(h:SlF w (.slice a n c) l)(e:l.length<=1000000):
  Sp PP 208 #[.slice a n c,.func (.func 207) #[] #[]] w λv w'=>Tells (∃y∈l,¬HitOk y) v/\Stp w w':=by
 refine eN ?_;refine rcall (zDk h e) ?_;rintro _ r ⟨⟨k,rfl,d⟩|⟨rfl,d⟩,x⟩
 ·refine ite (λb=>⟨.t d,stp⟩) (λb=>absurd b (by omega))
 ·refine ite (λb=>absurd b (by omega)) (λb=>⟨.f (λ⟨y,o,p⟩=>p (d y o)),stp⟩)
theorem zIl{x : RepD}{l : List HitD}{w : World}(h : SlF w (.slice x.a.s.a x.a.s.n x.a.s.c) l)(W : l.length <= 1000000) :
    Sp PP 115 #[agg x] w λv w' => Tells (RepOk x l) v /\ Stp w w' := by
  obtain ⟨id, o, E, d, F, sn, G⟩ := x;have r : sn = l.length := h.len;have C : ∀ u : World, Stp w u -> ¬ RepOk ⟨id, o, E, d, F, sn, G⟩ l -> Tells (RepOk ⟨id, o, E, d, F, sn, G⟩ l) (.bool false) /\ Stp w u := λu s hf => ⟨.f hf, s⟩;have X : l.length = 0 -> l = [] := Qn;refine eN ?_;refine rbx λb1 w1 n1 D => (rldG (ds := enc (⟨E, d, F, sn, G⟩ : AnsD)) (B := D) rfl rfl (ral λb2 w2 n2 L => (rsto (B := L) (vs := enc (⟨E, d, F, sn, G⟩ : AnsD)) rfl rfl rfl (Enc.one _) λH Y Z _ => ?_)));have s3 : Stp w1 H := ⟨Fr.st Le.e Z λi hi => by subst hi; exact n2.lo⟩;have z : Bk H b2 [.bool E, .int .i64 d, .slice F sn G] 65 := Y;have D := D.mv (w := H);clear Y L Z;refine rld (B := z) rfl (ite (λ(M : d = 0) => ?pp) (λ(M : ¬ d = 0) => ?n1))
  case' pp =>
    refine rld (B := z) rfl (ite (λ(L : (sn : Int) = 0) => ?yy) (λ(L : ¬ (sn : Int) = 0) => ?n2))
  case' n1 => have A : ¬ (d = 0 /\ l = []) := λe => M e.1
  case' n2 => have A : ¬ (d = 0 /\ l = []) := λe => by rw [e.2] at r; simp at r; omega
  case' yy => have A : d = 0 /\ l = [] := ⟨M, X (by omega)⟩
  all_goals
    refine rld (B := D) rfl (ite (λ(h : id < 0) => C _ stp λe => by have := e.1.1; dsimp only at this; omega) (λ(h1 : ¬ id < 0) => ?_));refine rld (B := D) rfl (ite (λ(h : 2147483647 < id) => C _ stp λe => by have := e.1.2; dsimp only at this; omega) (λ(h2 : ¬ 2147483647 < id) => ?_));refine rld (B := D) rfl (ite (λ(h : o < 0) => C _ stp λe => by have := e.2.1.1; dsimp only at this; omega) (λ(h3 : ¬ o < 0) => ?_));refine rld (B := D) rfl (ite (λ(h : 1000 < o) => C _ stp λe => by have := e.2.1.2; dsimp only at this; omega) (λ(h4 : ¬ 1000 < o) => ?_));have p : (0 <= id /\ id <= 2147483647) /\ (0 <= o /\ o <= 1000) := ⟨⟨by omega, by omega⟩, by omega, by omega⟩;refine rld (B := D) rfl (ite (λ(I : o ≠ 0) => ?_) (λ(I : ¬ o ≠ 0) => ?_))
    · cases E
      · first
        | exact C _ stp λe => A (e.2.2.2.2.1 I).2
        | (refine rld (B := z) rfl ?_
           exact ⟨.t ⟨p.1, p.2, ⟨by show 0 <= d; omega, by show d <= 400; omega⟩, by rw [A.2]; simp, λ_ => ⟨rfl, A⟩, λ_ => A, .inl A.2, by rw [A.2]; simp⟩, stp⟩)
      · first
        | exact C _ stp λe => nomatch (e.2.2.2.2.1 I).1
        | (refine rld (B := z) rfl ?_
           exact C _ stp λe => nomatch (e.2.2.2.2.1 I).1)
    · have J : o = 0 := Q2.1 I
      refine rld (B := z) rfl ?_;cases E
      · first
        | exact C _ stp λe => A (e.2.2.2.2.2.1 rfl)
        | (refine rld (B := z) rfl ?_
           exact ⟨.t ⟨p.1, p.2, ⟨by show 0 <= d; omega, by show d <= 400; omega⟩, by rw [A.2]; simp, λh => absurd J h, λ_ => A, .inl A.2, by rw [A.2]; simp⟩, stp⟩)
      · refine rld (B := z) rfl (ite (λ(h5 : 0 <= d) => ?_) (λ(h5 : ¬ 0 <= d) => C _ stp λe => by have := e.2.2.1.1; dsimp only at this; omega))
        refine rld (B := z) rfl (ite (λ(h6 : d <= 400) => ?_) (λ(h6 : ¬ d <= 400) => C _ stp λe => by have := e.2.2.1.2; dsimp only at this; omega));refine rld (B := z) rfl (ite (λ(h7 : (sn : Int) <= 100) => ?_) (λ(h7 : ¬ (sn : Int) <= 100) => C _ stp λe => by have := e.2.2.2.1; omega))
        have go : (l = [] \/ d = 0) -> ∀ {u : World} {v : Value}, Tells (∃ y ∈ l, ¬ HitOk y) v -> ∃ b : Bool, v = .bool b /\ Tells (RepOk ⟨id, o, true, d, F, sn, G⟩ l) (.bool (!b)) := by
          rintro ho u v (⟨rfl, y, N, O⟩ | ⟨rfl, hy⟩)
          · exact ⟨true, rfl, .f λe => O (e.2.2.2.2.2.2.2 y N)⟩
          · exact ⟨false, rfl, .t ⟨p.1, p.2, ⟨h5, h6⟩, by omega, λh => absurd J h, (λh => nomatch h), ho, λy Q => Q2.1 λh => hy ⟨y, Q, h⟩⟩⟩
        refine rld (B := z) rfl (ite (λ(R : d = 0) => ?_) (λ(R : ¬ d = 0) => ?_))
        · refine rld (B := z) rfl (rcall (zBc (h.up (w' := H)) W) ?_)
          rintro v S ⟨T, e4⟩;have K := go (.inr R) (u := S) T;obtain ⟨b, rfl, U⟩ := K;exact ⟨U, stp⟩
        · refine rld (B := z) rfl ?_
          refine ite (λ(h9 : (sn : Int) = 0) => ?_) (λ(h9 : ¬ (sn : Int) = 0) => C _ stp λe => by
            have K := e.2.2.2.2.2.2.1;rcases K with V | V
            · rw [V] at r; simp at r; omega
            · exact R V)
          refine rld (B := z) rfl (rcall (zBc (h.up (w' := H)) W) ?_);rintro v S ⟨T, e4⟩;have K := go (.inl (X (by omega))) (u := S) T;obtain ⟨b, rfl, U⟩ := K;exact ⟨U, stp⟩
def digs (n:Nat):List (Nat×Bool):=if h:n<128 then [(n,false)] else (n % 128,true)::digs (n / 128)
termination_by n
decreasing_by omega
theorem zIh(h:n<128):digs n=[(n,false)]:=by rw [digs,dif_pos h]
theorem zIg(h:¬n<128):digs n=(n % 128,true)::digs (n / 128):=by rw [digs,dif_neg h]
def dgV (p:Nat×Bool):List Value:=[.int .i64 (p.1:Int),.bool p.2]
def dgB (p:Nat×Bool):UInt8:=UInt8.ofNat (if p.2 then p.1+128 else p.1)
theorem zIZ(n:Nat):(digs n).map dgB=numB n:=by
 induction n using Nat.strongRecOn with
 |ind n b =>
  by_cases h:n<128
  ·rw [zIh h,numB_lt h];rfl
  ·rw [zIg h,zBz h,QS,b (n / 128) (by omega)];congr 1;show UInt8.ofNat (n % 128+128)=_;rw [Xv]
theorem zNi(n:Nat):∀p∈digs n,p.1<128:=by
 induction n using Nat.strongRecOn with
 |ind n c =>
  by_cases h:n<128
  ·rw [zIh h];intro p b;simp at b;subst b;exact h
  ·rw [zIg h];intro p b;have d:=Ql.1 b;rcases d with rfl|b
   ·show n % 128<128;omega
   ·exact c (n / 128) (by omega) p b
theorem zOY(h:n<=2147483647):(digs n).length<=5:=by
 have:=zAm h;rw [<-zIZ,Qr] at this;exact this
abbrev DgQ (b:Nat) (u u':World):Prop:=Fr (λi=>i=b) u u'/\∃x,Bk u b [.int .i64 x] 3
abbrev DgR (b:Nat) (u u':World):Prop:=∀x,Bk u b [.int .i64 x] 3->Bk u' b [.int .i64 x] 3
theorem zNh{b:Nat}(C:n<=2147483647):SeqG PP 361 [] [.pointer (some ⟨b,0,none⟩)] (DgQ b) (DgR b) (λu=>Bk u b [.int .i64 (n:Int)] 3)
  (λc x _=>∃rest,c++x::rest=(digs n).map dgV) (λc=>c=(digs n).map dgV):=by
 refine⟨λy J M w D E v h0 F=>?_⟩;refine eN ?_;refine loop0 TBok 4 [2,3] (λu=>∃c m:_,c++(digs m).map dgV=(digs n).map dgV/\J c u/\Bk u b [.int .i64 ((m:Nat):Int)] 3/\m<=2147483647) (cellN b) rfl ⟨[],n,rfl,h0,F,C⟩ ?_;rintro g u ⟨c,m,d,G,B,N⟩;refine rX B rfl (rremE (z:=((m % 128:Nat):Int)) (by omega) (by omega) (by omega) ?_);refine rX B rfl (rdivE (q:=((m / 128:Nat):Int)) (by omega) (by rw [Xp (by omega)];omega) (by omega) ?_);refine rS B [.int .i64 _] (zAa _) λA o H _=>rX o rfl ?_;have f:=D _ _ _ G ⟨H,_,B⟩;refine ite (λhgt=>?_) (λI=>?_)
 ·have hd:=zIg (n:=m) (by omega);refine ryield (vs:=dgV (m % 128,true)) rfl rfl rfl rfl (v c A _ ⟨(digs (m / 128)).map dgV,by rw [<-d,hd];rfl⟩ f) ?_;rintro K L ⟨⟨rfl,e⟩|⟨rfl,p⟩,r⟩
  ·have l:=r _ o;refine rX l rfl (iF (by omega) ?_);refine⟨⟨c++[dgV (m % 128,true)],m / 128,by rw [Qp,<-d,hd];rfl,e,l,by omega⟩,?_⟩;rw [zJ9 l,zJ9 B];omega
  ·exact .inr p
 ·have hd:=zIh (n:=m) (by omega);have t:m % 128=m:=by omega
  refine ryield (vs:=dgV (m,false)) rfl rfl rfl (by rw [<-t];exact congrArg (λq:Nat=>[Value.int .i64 (q:Int),.bool false]) (by omega)) (v c A _ ⟨[],by rw [<-d,hd];rfl⟩ f) ?_;rintro K L ⟨⟨rfl,e⟩|⟨rfl,p⟩,r⟩
  ·have l:=r _ o;refine rX l rfl (iT (by omega) (.inl ⟨_,?_,e⟩));rw [<-d,hd];rfl
  ·exact .inr p
theorem zIR{n:Int}{w:World}:Sp PP 293 #[.int .i64 n] w λv w'=>(∃b,v=.func (.func 361) #[] #[.pointer (some ⟨b,0,none⟩)]/\w.heap.size<=b/\Bk w' b [.int .i64 n] 3)/\Stp w w':=by
 refine eN ?_;refine rbx λc w1 n1 d=>?_;exact⟨⟨c,rfl,n1.lo,d⟩,stp⟩
theorem zIQ{n : Int}{w : World} : Sp PP 209 #[.int .i64 n] w λv w' => v = numV n /\ Stp w w' := by
  have J : ¬ (0 <= n /\ n <= 2147483647) -> numV n = .tuple #[txt [], .int .i64 1] := λh => if_neg h;refine eN ?_;refine ite (λh => ⟨(J (by omega)).symm, stp⟩) (λo => ?_);refine ite (λh => ⟨(J (by omega)).symm, stp⟩) (λF => ?_);have ok : numV n = .tuple #[txt (numB n.toNat), .int .i64 0] := if_pos (by omega);clear J;have E : ∃ N : Nat, n = (N : Int) := ⟨n.toNat, by omega⟩;obtain ⟨N, rfl⟩ := E;rw [QW] at ok;have V : N <= 2147483647 := by omega
  have a1 := zOY V;refine ral λb4 w1 n1 B4 => (rcall (zIR (n := (N : Int))) ?_);rintro v w2 ⟨⟨K, rfl, L, Bd⟩, e2⟩;have C4 := B4.mv (w := w2);have a4 := n1.b; have a5 := n1.s;have W := Le.size (a := w) (b := w2)
  refine rrangeG TBok rfl (gf := 361) (first := []) (cap := [.pointer (some ⟨K, 0, none⟩)]) (Rc := λc u => (∃ D, Fr D c u) /\ DgR K c u) rfl rfl (zNh (b := K) V)
    (by rintro A x _ ⟨rest, h⟩
        have : x ∈ (digs N).map dgV := by rw [<- h]; simp
        have E := Qq.1 this;obtain ⟨p, _, rfl⟩ := E;rfl) (λu u' h => ⟨_, h.1⟩)
    (λA u => ∃ k, A = ((digs N).take k).map dgV /\ k <= (digs N).length /\ ∃ oa on oc, Bk u b4 [.slice oa on oc] 201 /\ Own w.heap.size 5 u (.slice oa on oc) (((digs N).take k).map dgB) /\ Stp w u) (λ_ _ => False)
    ?_ ?_ ?_ ?_ ?_ (λc u h => h.1) (λw' e => by have := Bd.fr e id; exact this) ⟨0, rfl, by omega, none, 0, 0, C4, Own.nil _ _ _, stp⟩ ?_ ?_ ?_
  · rintro A u u' ⟨k, o, F, oa, on, oc, l, f, C⟩ q; exact ⟨k, o, F, oa, on, oc, l.qt q, f.qt q, C.qt (q.mono W)⟩
  · rintro _ u u' h; exact h.elim
  · rintro A u u' _ ⟨k, o, F, oa, on, oc, l, f, C⟩ ⟨q, x, M⟩
    exact ⟨k, o, F, oa, on, oc, l.fr q (by omega), f.frc q M, ⟨Fr.st C.e q λi hi => by subst hi; exact Qw (by omega) L⟩⟩
  · rintro _ u u' _ h; exact h.elim
  · rintro u c u2 u3 q1 ⟨_, r⟩ q2 x B; exact (r x (B.qt q1)).qt q2
  · rintro A x u ⟨rest, X⟩ _ ⟨k, o, F, oa, on, oc, l, f, C⟩
    have G : k < (digs N).length := by
      have E := QH k (digs N).length;rcases E with h | h
      · exact h
      · exfalso
        have := congrArg List.length X;rw [o] at this;simp at this; omega
    have Y : x = dgV (digs N)[k] := by
      have O : A.length = k := by rw [o, Qr, Qm]; omega
      have Z : (((digs N).map dgV))[k]? = some x := by rw [<- X, <- O, Xk (Qe _)]; simp
      rw [QK, Qd G] at Z;exact (QL Z).symm
    have Q := take_add G;have t := zNi N _ (Qa G);have E : ∃ p, p = (digs N)[k] := ⟨_, rfl⟩;obtain ⟨⟨d, m⟩, R⟩ := E;rw [<- R] at Y Q t;subst Y;refine ⟨Fr.refl _ _, λu1 q => ?_⟩;have l := l.qt q; have f := f.qt q; have C := C.qt (q.mono W);have a0 : (((digs N).take k).map dgB).length <= 5 := by rw [Qr, Qm]; omega
    have S : A ++ [dgV (d, m)] = ((digs N).take (k + 1)).map dgV := by rw [o, Q]; simp
    have T : ((digs N).take k).map dgB ++ [dgB (d, m)] = ((digs N).take (k + 1)).map dgB := by rw [Q]; simp
    cases m
    case' false =>
      refine rld (B := l) rfl (rconvE (z := ((dgB (d, false)).toNat : Int)) (zGb (x := d) (by dsimp only at t; omega)) (bS (dgB (d, false)) λb6 H e6 _ S6 => ?_))
    case' true =>
      refine rarE (y := ((d + 128 : Nat) : Int)) (by omega) (by dsimp only at t; omega) (rld (B := l) rfl (rconvE (z := ((dgB (d, true)).toNat : Int)) (zGb (x := d + 128) (by dsimp only at t; omega)) (bS (dgB (d, true)) λb6 H e6 _ S6 => ?_)))
    all_goals
      refine rapp1 (u := w) ⟨rfl, rfl⟩ (f.up (w' := H)) S6 (by omega) λv7 w7 U f7 s7 => ?_;have r1 := (l.mv (w := H)).fro (f.up (w' := H)) f7;rw [T] at U;have q7 := U.shape;obtain ⟨a7, c7, rfl⟩ := q7;refine rsto (B := r1) (vs := [.slice a7 _ c7]) rfl rfl rfl (by simp; rfl) λw8 B8 I _ => ?_;have s8 : Stp w w8 := ⟨Fr.st Le.e I λi hi => by subst hi; exact n1.lo⟩;refine ⟨⟨k + 1, S, G, a7, _, c7, B8, U.frc I r1, s8⟩, ⟨λi => w.heap.size <= i, ((Fr.fr e6.e).trans s7.e).trans (I.mono λi _ hi => by subst hi; exact n1.lo)⟩, λx M => ?_⟩;have k1 := (M.mv (w := H)).fro (f.up (w' := H)) f7;exact k1.fr I (by omega)
  · rintro A D u hE ⟨k, o, F, oa, on, oc, l, f, C⟩ hD hd
    have G : k = (digs N).length := by
      have := congrArg List.length (o.symm.trans hE);simp at this; omega
    subst G;rw [Qj (Qe _), zIZ] at f;refine rld (B := l) rfl (rbstr f.sl ?_);refine leave1 hd λu' q => ?_;exact ⟨ok.symm, C.qt (q _ (by omega))⟩
  · rintro c D u h; exact h.elim
end Go.W
namespace Go.Proofs
open Go.Shelf Tryz
def Tryz.bld_ren:Go.Shelf.Ren:=⟨fun|166=>210|240=>294|276=>362|169=>117|n=>n,fun|0=>0|3=>3|4=>4|5=>5|9=>9|20=>20|37=>201|70=>200|72=>203|75=>300|80=>162|127=>303|164=>422|n=>n,fun|n=>n⟩
theorem Tryz.bldW:Go.Proofs.Lays.n166 prog Tryz.bld_ren:={
 mixed:=by kernel_rfl
 f166:=W.ff func210
 f240:=W.ff func294
 f276:=W.ff func362
 t0:=underlying0
 a0:=isAgg0
 z0:=sizeOf0
 v0:=zeroValue0
 t3:=underlying3
 a3:=isAgg3
 z3:=sizeOf3
 v3:=zeroValue3
 t4:=underlying4
 a4:=isAgg4
 z4:=sizeOf4
 v4:=zeroValue4
 t9:=underlying9
 a9:=isAgg9
 z9:=sizeOf9
 v9:=zeroValue9
 t20:=underlying20
 a20:=isAgg20
 z20:=sizeOf20
 v20:=zeroValue20
 t37:=underlying201
 a37:=isAgg201
 z37:=sizeOf201
 v37:=zeroValue201
 t70:=underlying200
 a70:=isAgg200
 z70:=sizeOf200
 v70:=zeroValue200
 t72:=underlying203
 a72:=isAgg203
 z72:=sizeOf203
 v72:=zeroValue203
 t75:=underlying300
 a75:=isAgg300
 z75:=sizeOf300
 v75:=zeroValue300
 t164:=underlying422
 a164:=isAgg422
 z164:=sizeOf422
 v164:=zeroValue422 }
theorem Tryz.bldS:Go.Proofs.Lays.n169 prog Tryz.bld_ren:={
 mixed:=by kernel_rfl
 f169:=W.ff func117
 t0:=underlying0
 a0:=isAgg0
 z0:=sizeOf0
 v0:=zeroValue0
 t3:=underlying3
 a3:=isAgg3
 z3:=sizeOf3
 v3:=zeroValue3
 t9:=underlying9
 a9:=isAgg9
 z9:=sizeOf9
 v9:=zeroValue9
 t37:=underlying201
 a37:=isAgg201
 z37:=sizeOf201
 v37:=zeroValue201
 t70:=underlying200
 a70:=isAgg200
 z70:=sizeOf200
 v70:=zeroValue200
 t72:=underlying203
 a72:=isAgg203
 z72:=sizeOf203
 v72:=zeroValue203
 t127:=underlying303
 a127:=isAgg303
 z127:=sizeOf303
 v127:=zeroValue303 }
theorem Tryz.bldX:Builder.Extra prog Tryz.bld_ren:={
 sizeBuilder:=by kernel_rfl
 liesBuilder:=by kernel_rfl
 t5:=underlying5
 a5:=isAgg5
 z5:=sizeOf5
 v5:=zeroValue5
 infoByte:=by kernel_rfl
 cellsByte:=by kernel_rfl
 sizeByte:=by kernel_rfl
 neB5:=by decide }
end Go.Proofs
namespace Go.W
open Go Go.Proofs
open Enc (enc)
set_option maxRecDepth 10000
variable {B i j k m n n2 n3:Nat} {P:Program} {a a2 a3:Option Addr} {g:GrD} {ps:List Int} {q:QyD} {s:List UInt8} {u u' w' w1 w2:World}
theorem SlY.frB{α:Type}[Enc α]{e T:TypeId}{b:Nat}{o:List TypeId}{w:World}{v:Value}{l:List α}(h:SlY e w v l)(f:FrX (λi=>i=b) B o w w')(p:∃c z,w.heap[b]? = some (.cells c T z))(r:T≠e)(t:e∉o):SlY e w' v l:=
 h.fr f (by
  rintro g cs z A d (rfl|x)
  ·obtain⟨c,C,y⟩:=p;rw [y] at d;cases d;exact r rfl
  ·exact t (x.cells d))
abbrev BldR (B b:Nat) (l:List UInt8) (w:World):Prop:=BldB 203 5 B b l w
abbrev BldF (B b:Nat) (w w':World):Prop:=FrX (λi=>i=b) B [5] w w'
theorem zGR{b:Nat}{l m:List UInt8}{w:World}(h:BldR B b l w)(d:B<=w.heap.size)(c:l.length+m.length<=140737488355328):
  Sp PP 210 #[.pointer (some ⟨b,0,none⟩),txt m] w λv w'=>v=.tuple #[.int .i64 m.length,.nilIface]/\BldR B b (l++m) w'/\BldF B b w w':=
 zNV (f:=210) Tryz.bldW Tryz.bldX rfl rfl rfl (FnAt.can (f:=210) inferInstance) h d c
theorem zCF{b:Nat}{l:List UInt8}{w:World}(h:BldR B b l w)(c:B<=w.heap.size):
  Sp PP 117 #[.pointer (some ⟨b,0,none⟩)] w λv w'=>v=txt l/\BldR B b l w'/\BldF B b w w':=
 zNc (f:=117) Tryz.bldS Tryz.bldX rfl rfl rfl (FnAt.can (f:=117) inferInstance) h c
theorem zJW{n:Int}{w:World}:Sp PP 209 #[.int .i64 n] w λv w'=>(∃e:Int,v=.tuple #[txt (if 0<=n/\n<=2147483647 then numB n.toNat else []),.int .i64 e])/\Stp w w':=
 zIQ.mono λ_ _ b=>⟨by
  rw [b.1];unfold numV;split
  ·exact⟨0,rfl⟩
  ·exact⟨1,rfl⟩,b.2⟩
theorem zC8{b:Nat}{bs:List UInt8}{c:Nat}{l:List Int}{w:World}(r:BldR B b bs w)(h:SlY 3 w (.slice a n c) l)(A:B<=w.heap.size)(I:l.length<=1000000)(J:bs.length<=1000000000):
  Sp PP 116 #[.pointer (some ⟨b,0,none⟩),.slice a n c] w λv w'=>v=.tuple #[]/\BldR B b (bs++numsB l) w'/\BldF B b w w':=by
 have o:=h.len;obtain rfl:=o;refine eN ?_;refine cN 11 [4,5,6,7] 10 l.length (λk u=>BldR B b (bs++numsB (l.take k)) u/\BldF B b w u) ⟨by simpa [numsB] using r,FrX.refl _ _ _ _⟩ ?_;rintro k g u K ⟨p,f⟩;refine ite (λhlt=>?_) (λC=>?_)
 ·have d:k<l.length:=by omega
  have t:=zHM d;have D:=zAu (l.take (k+1));rw [Qm,t,Qb] at D;have E:=h.frB f r.obj (by decide) (by decide);refine rix E.sl (x:=l[k]) (by simp) λL M F=>rload1 (F.cell0 rfl) (rcall (zJW (n:=l[k])) ?_);rintro _ G ⟨⟨N,rfl⟩,y⟩;refine rcall (zGR (p.up (w':=G)) (Qw A (Qw f.size y.e.size)) (by rw [Qb];omega)) ?_;rintro _ O ⟨rfl,z,H⟩;rw [Qp,<-t] at z;refine rA ⟨rfl,d,z,(f.trans (FrX.ext y.e)).trans H⟩
 ·have o:k=l.length:=by omega
  obtain rfl:=o;rw [Qj (Qe _)] at p;exact⟨rfl,p,f⟩
theorem SlY.of_new{α:Type}[Enc α]{e:TypeId}{w:World}{b:Nat}{cs:Array Value}{xs:List α}(h:SlF w' (.slice (some ⟨b,0,none⟩) n n) xs)(N:New w w' b cs e):SlY e w' (.slice (some ⟨b,0,none⟩) n n) xs:=⟨h,.inr ⟨b,_,_,rfl,N.blk⟩⟩
theorem zCH{x:RepD}{l:List HitD}{w:World}(h:SlF w (.slice x.a.s.a x.a.s.n x.a.s.c) l)(hn:l.length<=1000000):
  Sp PP 55 #[agg x] w λv w'=>((RepOk x l/\v=.tuple #[txt (encR x l),.int .i64 0])\/(¬RepOk x l/\v=.tuple #[txt [],.int .i64 1]))/\Stp w w':=by
 obtain⟨id,f,M,o,D,sn,E⟩:=x;have r:sn=l.length:=h.len;refine eN ?_;refine rbx λb1 w1 n1 N=>rG N (⟨id,f,M,o,D,sn,E⟩:RepD) (rcall (zIl (x:=⟨id,f,M,o,D,sn,E⟩) (h.up (w':=w1)) hn) ?_);rintro v w2 ⟨⟨rfl,p⟩|⟨rfl,p⟩,e2⟩
 case' inr=>exact⟨.inr ⟨p,rfl⟩,stp⟩
 have z2:=lz w w2;refine ral λR w3 n3 B3=>?_;have a7:=n1.b;have a8:=n1.s;have a9:=n3.b;have b0:=n3.s;have b2:=lz w1 w2;have S:w.heap.size<=R:=by omega
 have L0:BldR w.heap.size R [] w3:=zPX S B3;clear B3;refine rX N rfl (rX N rfl (rbs (α:=Int) [id,f] rfl (vs:=[.int .i64 id,.int .i64 f]) rfl rfl (by decide) λb5 O n5 S5=>?_));have s5:Stp w3 O:=⟨n5.ext⟩;have z5:=lz w O;refine rcall (zC8 (L0.up (w':=O)) (SlY.of_new S5 n5) z5 (by simp) (by simp)) ?_;rintro _ w6 ⟨rfl,T,f6⟩;rw [Je] at T;have s6:Stp w w6:=⟨FrX.st Le.e f6 (Qe _) λi hi=>by omega⟩;have z6:=s6.e.size;have z:=(N.mv (w:=O)).keptX f6 (by omega) (by decide);refine rX z rfl ?_;have q1:=zAu [id,f];simp only [QA,QZ] at q1;refine ite (λQ=>?_) (λQ=>?_)
 ·have hv:Value.tuple #[txt (numsB [id,f]),.int .i64 0]=.tuple #[txt (encR ⟨id,f,M,o,D,sn,E⟩ l),.int .i64 0]:=by
   unfold encR;rw [if_pos Q,QE]
  refine rcall (zCF T z6) ?_;rintro _ w7 ⟨rfl,L7,f7⟩;exact⟨.inl ⟨p,hv⟩,⟨FrX.st s6.e f7 (Qe _) λi hi=>by omega⟩⟩
 refine rX z rfl ?_;cases M
 case' false =>
  refine rX z rfl (rX z rfl (rbs (α:=Int) [0,o,(sn:Int)] rfl (vs:=[.int .i64 0,.int .i64 o,.int .i64 (sn:Int)]) rfl rfl (by decide) λb8 F U S8=>?_));have q2:=zAu [0,o,(sn:Int)]
  have t:numsB [id,f]++numsB [0,o,(sn:Int)]++hitsB l=encR ⟨id,f,false,o,D,sn,E⟩ l:=by
   unfold encR;rw [if_neg Q,r,Qp];rfl
 case' true =>
  refine rX z rfl (rX z rfl (rbs (α:=Int) [1,o,(sn:Int)] rfl (vs:=[.int .i64 1,.int .i64 o,.int .i64 (sn:Int)]) rfl rfl (by decide) λb8 F U S8=>?_));have q2:=zAu [1,o,(sn:Int)]
  have t:numsB [id,f]++numsB [1,o,(sn:Int)]++hitsB l=encR ⟨id,f,true,o,D,sn,E⟩ l:=by
   unfold encR;rw [if_neg Q,r,Qp];rfl
 all_goals
  have s8:Stp w6 F:=⟨U.ext⟩;have z8:=lz w F;simp only [QA,QZ] at q2;refine rcall (zC8 (T.up (w':=F)) (SlY.of_new S8 U) z8 (by simp) (by omega)) ?_;rintro _ w9 ⟨rfl,L9,f9⟩;have s9:Stp w w9:=⟨FrX.st Le.e f9 (Qe _) λi hi=>by omega⟩;have z9:=s9.e.size;have C9:=(z.mv (w:=F)).keptX f9 (by omega) (by decide);refine rX C9 rfl (cN 39 [7] 38 l.length (λk u=>BldR w.heap.size R (numsB [id,f]++numsB _++hitsB (l.take k)) u/\Stp w u) ⟨by simpa [hitsB] using L9,s9⟩ ?_);rintro k g u hk ⟨V,eu⟩;refine ite (λhlt=>?_) (λW=>?_)
  ·have G:k<l.length:=by have a5:(k:Int)<(sn:Int):=hlt;omega
   have X:∃y,l[k]? = some y:=⟨_,Qd G⟩;obtain⟨y,hy⟩:=X;refine rix (h.up (w':=u)) (x:=y) hy λb7 o7 A7=>rloadA A7 rfl (ral λY b3 Z H=>rE H y λA I J _=>?_);have b4:Stp u A:=Z.st J;have BH:Bk A Y [.int .i64 y.v,.int .i64 y.d] 206:=I;clear I H J;refine rX BH rfl (rX BH rfl (rbs (α:=Int) [y.v,y.d] rfl (vs:=[.int .i64 y.v,.int .i64 y.d]) rfl rfl (by decide) λb6 C K a0=>?_));have b9:Stp A C:=⟨K.ext⟩;have q3:=zAu [y.v,y.d];have q4:=zFo (l.take k);simp only [QA,QZ,Qm] at q3 q4;refine rcall (zC8 (V.up (w':=C)) (SlY.of_new a0 K) (lz w C) (by simp) (by rw [Qb,Qb];omega)) ?_;rintro _ c0 ⟨rfl,L,a1⟩;rw [Qp,<-zEr hy] at L;refine rA ⟨rfl,G,L,⟨FrX.st Le.e a1 (Qe _) λi hi=>by omega⟩⟩
  ·have a6:¬(k:Int)<(sn:Int):=W;have X:k=l.length:=by omega
   obtain rfl:=X;rw [Qj (Qe _),t] at V;refine rcall (zCF V eu.e.size) ?_;rintro _ c1 ⟨rfl,c2,a4⟩;exact⟨.inl ⟨p,rfl⟩,⟨FrX.st eu.e a4 (Qe _) λi hi=>by omega⟩⟩
theorem zK2{p r:List UInt8}:RdAt (p++r) p.length n↔n<=2147483647/\∃t,r=numB n++t:=by
 unfold RdAt;rw [V0]


theorem zBq{bx be:Nat}{w:World}:SpD PP 141 #[.pointer (some ⟨bx,0,none⟩),.pointer (some ⟨be,0,none⟩)] .returning w λu' w'=>u'=.returning/\w'=w:=by
 refine SpD.enter TBok rfl rfl rfl rfl rfl rfl rfl (λ_ _=>rfl) rfl rfl ?_;refine rtaN ?_;exact⟨rfl,rfl,rfl⟩
theorem zBp{bx be:Nat}{x:RReq}{e:Int}{w:World}(f:Bk w bx (enc x) 55)(l:Bk w be [.int .i64 e] 27)(b:¬be=bx):
  SpD PP 141 #[.pointer (some ⟨bx,0,none⟩),.pointer (some ⟨be,0,none⟩)] (.panicking PanF) w λu' w'=>settle u'=.returning/\Bk w' bx (enc zRq) 55/\Bk w' be [.int .i64 220] 27/\Fr (λi=>i=bx\/i=be) w w':=by
 refine SpD.enter TBok rfl rfl rfl rfl rfl rfl rfl (λ_ _=>rfl) rfl rfl ?_;refine rta (ral λt w1 n1 o=>rG o zRq (rE (f.mv (w:=w1)) zRq λw2 p c _=>rS ((l.mv (w:=w1)).fr c b) [.int .i64 220] (zAa _) λv r d _=>?_));exact⟨rfl,rfl,p.fr d (λh=>b h.symm),r,((fE w w1).trans (c.mono λi _ hi=>.inl hi)).trans (d.mono λi _ hi=>.inr hi)⟩
theorem zPq{d:RqD}(h:rdR s=some (d,[]))(hd:RqIs d):reqOf s=some d:=by
 unfold reqOf;rw [h];simp only;rw [if_pos hd]
theorem zQk(h:∀d t,rdR s=some (d,t)->¬RqIs d):reqOf s=none:=by
 unfold reqOf;split
 ·rename_i x b;rw [if_neg (h _ _ b)]
 ·rfl
theorem zQl{t:List UInt8}{d:RqD}(h:rdR s=some (d,t))(c:t≠[]):reqOf s=none:=by
 unfold reqOf;split
 ·rename_i x b;rw [h] at b;cases b;exact absurd rfl c
 ·rfl
abbrev GetReq (s:List UInt8) (B:Nat) (v:Value) (w':World):Prop:=
 (∃d x,reqOf s=some d/\v=.tuple #[agg x,.int .i64 0]/\RqO B w' x d)\/(reqOf s=none/\v=.tuple #[agg zRq,.int .i64 220])
theorem zDT{w:World}(hs:s.length<=4611686018427387904):Sp PP 75 #[txt s,.func (.func 76) #[] #[]] w λv w'=>GetReq s w.heap.size v w'/\Stp w w':=by
 refine eN ?_;refine ral λbx w1 n1 z1=>ral λbe w2 n2 z2=>?_;have a0:=n1.b;have a1:=n1.s;have a4:=n2.b;have a5:=n2.s;refine rbuild (cs:=[txt s,.int .i64 0]) rfl (rbx λA H n3 W=>?_);have a6:=n3.b;have R3:FrB H A s 0:=W;clear W;have Y:Bk H bx (enc zRq) 55:=z1.mv;have Z:Bk H be [.int .i64 0] 27:=z2.mv;have a7:=lz w H;have f:¬be=bx:=by omega
 have pan:∀{G:Nat->Value} {u:World} {x:RReq},Bk u bx (enc x) 55->Bk u be [.int .i64 0] 27->Stp w u->reqOf s=none->ev G (.tmp 4)=.pointer (some ⟨bx,0,none⟩)->ev G (.tmp 5)=.pointer (some ⟨be,0,none⟩) ->
   LeaveS PP [.cell 4 55,.cell 5 27] G [{ target:=.fn (.func 141) #[.pointer (some ⟨bx,0,none⟩),.pointer (some ⟨be,0,none⟩)],args:=#[] }] (.panicking PanF) (λv w'=>GetReq s w.heap.size v w'/\Stp w w') (λ_ _=>False) u:=by
  intro G u x X I e o g4 g5;refine zCS (by simp) ⟨(zBp X I f).can,zBb (zBp X I f).calls ?_⟩;intro en u' w' L
  cases en with
  |returned v =>
   obtain⟨l,X',I,f'⟩:=L;show LeaveS PP _ _ [] (settle u') _ _ w';rw [l];refine leave_ret ?_;show resS PP [.cell 4 _,.cell 5 _] [] G _ w';simp only [resS,g4,g5];refine rresG (B:=X') rfl ?_;refine rres (B:=I) rfl ?_;exact⟨.inr ⟨o,rfl⟩,⟨Fr.st e.e f' λi hi=>by omega⟩⟩
  |panicked c=>exact L
  |outgrown=>exact L
 have C:∀i,i=A->w.heap.size<=i:=by omega
 have D:∀i,i=bx->w.heap.size<=i:=by omega
 have p:¬bx=A:=by omega
 have E:¬be=A:=by omega
 refine rcallP (zDS (b:=A) R3 hs) ?_ ?_
 ·rintro _ M ⟨d,A4,x,r,N,rfl,t,R4,y⟩;have O:Stp w M:=⟨Fr.st Le.e y C⟩;have X4:=Y.fr y p;have E4:=Z.fr y E;refine rE X4 x λw5 J K _=>?_;have J:Bk w5 bx (enc x) 55:=J;have s5:Stp w w5:=⟨Fr.st O.e K D⟩;have E5:=E4.fr K f;have R5:=(Bk.fr R4 K (λh=>p h.symm));have O5:=t.2.2.2.2.2.1.frc K X4;refine rcallP (zE8 R5) ?_ ?_
  ·rintro _ z ⟨rfl,hA,e6⟩
   have ht:rdR s=some (d,[]):=by
    have l:=r.2;rw [Jf,hA,Yh] at l;exact l
   have Q:=J.mv (w:=z);refine rldG (ds:=enc x) (B:=Q) rfl (Enc.len x) (rE Q x λw7 R S _=>?_);have R:Bk w7 bx (enc x) 55:=R;have s7:Stp w w7:=⟨Fr.st Le.e S D⟩;have E7:=(E5.mv (w:=z)).fr S f;have O7:=(O5.up (w':=z)).frc S Q;refine rS E7 [.int .i64 0] (zAa _) λT E8 U _=>?_;have X8:=R.fr U (λh=>f h.symm);have s8:Stp w T:=⟨Fr.st s7.e U λi hi=>by omega⟩;have O8:=O7.frc U E7;refine zCS (by simp) ⟨(zBq (bx:=bx) (be:=be) (w:=T)).can,zBb (zBq (bx:=bx) (be:=be) (w:=T)).calls ?_⟩;intro en u' w' V
   cases en with
   |returned v =>
    obtain⟨rfl,rfl⟩:=V;refine leave_ret ?_;refine rresG (B:=X8) rfl ?_;refine rres (B:=E8) rfl ?_;exact⟨.inl ⟨d,x,zPq ht N,rfl,t.1,t.2.1,t.2.2.1,t.2.2.2.1,t.2.2.2.2.1,O8.mono (by omega),t.2.2.2.2.2.2⟩,s8⟩
   |panicked c=>exact V
   |outgrown=>exact V
  ·rintro _ z ⟨rfl,hA,e6⟩
   have F:s.drop A4≠[]:=λh=>by
    have l:=congrArg List.length h;rw [QR,QZ] at l;have:=r.1;omega
   exact pan (J.mv (w:=z)) (E5.mv (w:=z)) stp (zQl (by have l:=r.2;rw [Jf] at l;exact l) F) rfl rfl
 ·rintro _ M ⟨rfl,o,y⟩;have O:Stp w M:=⟨Fr.st Le.e y C⟩;exact pan (Y.fr y p) (Z.fr y E) O (zQk o) rfl rfl
theorem zB7{w:World}(p:s.length<=4611686018427387904):Sp PP 34 #[txt s] w λv w'=>GetReq s w.heap.size v w'/\Stp w w':=by
 refine eN ?_;refine ral λbx w1 n1 h=>?_;have r:=n1.b;refine rcall (zDT p) ?_;rintro v w2 ⟨⟨d,x,t,rfl,O⟩|⟨l,rfl⟩,y⟩
 ·refine rE (h.mv (w:=w2)) x λo c f _=>?_;have c:Bk o bx (enc x) 55:=c;refine rresG (B:=c) rfl ?_;exact⟨.inl ⟨d,x,t,rfl,O.1,O.2.1,O.2.2.1,O.2.2.2.1,O.2.2.2.2.1,(O.2.2.2.2.2.1.frc f (h.mv (w:=w2))).older,O.2.2.2.2.2.2⟩,⟨Fr.st Le.e f λi hi=>by omega⟩⟩
 ·refine rE (h.mv (w:=w2)) zRq λo c f _=>?_;have c:Bk o bx (enc zRq) 55:=c;refine rresG (B:=c) rfl ?_;exact⟨.inr ⟨l,rfl⟩,⟨Fr.st Le.e f λi hi=>by omega⟩⟩
theorem zLI{w:World}(d:s.length<=4611686018427387904):Sp PP 61 #[txt s] w λv w'=>((∃n:Nat,idOf s=some n/\v=.tuple #[.int .i64 (n:Int),.bool true])\/(idOf s=none/\v=.tuple #[.int .i64 0,.bool false]))/\Stp w w':=by
 refine eN ?_;refine rcall (zCN (A:=0) d) ?_;rintro _ w1 ⟨⟨n,f,e,rfl⟩|⟨b,rfl⟩,h⟩
 ·have c:idOf s=some n:=by have:=e.2;rw [Jf] at this;unfold idOf;rw [this];rfl
  exact⟨.inl ⟨n,c,rfl⟩,stp⟩
 ·have c:idOf s=none:=by rw [Jf] at b;unfold idOf;rw [b];rfl
  exact⟨.inr ⟨c,rfl⟩,stp⟩
end Go.W
namespace Go.Proofs
open Go.Shelf Tryz
def Tryz.sortI_ren:Go.Shelf.Ren:=⟨fun|53=>145|64=>165|63=>233|78=>259|79=>260|70=>313|71=>314|72=>315|73=>316|74=>317|75=>318|59=>319|76=>320|77=>321|88=>369|89=>330|90=>331|91=>370|92=>371|68=>277|96=>394|n=>n,fun|22=>34|23=>3|3=>3|51=>256|0=>0|67=>334|69=>336|4=>4|61=>328|60=>327|44=>116|5=>5|9=>9|75=>386|79=>390|83=>433|84=>434|n=>n,fun|n=>n⟩
theorem Tryz.sortI:Go.Proofs.SlLaysN.n53 prog Tryz.sortI_ren:={
 mixed:=by kernel_rfl
 f53:=⟨f145.name,by decide,W.ff func145⟩
 f59:=⟨f319.name,by decide,W.ff func319⟩
 f63:=⟨f233.name,by decide,W.ff func233⟩
 f64:=W.ff func165
 f68:=⟨f277.name,by decide,W.ff func277⟩
 f70:=⟨f313.name,by decide,W.ff func313⟩
 f71:=⟨f314.name,by decide,W.ff func314⟩
 f72:=⟨f315.name,by decide,W.ff func315⟩
 f73:=⟨f316.name,by decide,W.ff func316⟩
 f74:=⟨f317.name,by decide,W.ff func317⟩
 f75:=⟨f318.name,by decide,W.ff func318⟩
 f76:=⟨f320.name,by decide,W.ff func320⟩
 f77:=⟨f321.name,by decide,W.ff func321⟩
 f78:=W.ff func259
 f79:=W.ff func260
 f88:=⟨f369.name,by decide,W.ff func369⟩
 f89:=W.ff func330
 f90:=W.ff func331
 f91:=⟨f370.name,by decide,W.ff func370⟩
 f92:=⟨f371.name,by decide,W.ff func371⟩
 f96:=⟨f394.name,by decide,W.ff func394⟩
 t0:=underlying0
 a0:=isAgg0
 z0:=sizeOf0
 v0:=zeroValue0
 t3:=underlying3
 a3:=isAgg3
 z3:=sizeOf3
 v3:=zeroValue3
 t4:=underlying4
 a4:=isAgg4
 z4:=sizeOf4
 v4:=zeroValue4
 t5:=underlying5
 a5:=isAgg5
 z5:=sizeOf5
 v5:=zeroValue5
 t9:=underlying9
 a9:=isAgg9
 z9:=sizeOf9
 v9:=zeroValue9
 t22:=underlying34
 a22:=isAgg34
 z22:=sizeOf34
 v22:=zeroValue34
 t23:=underlying3
 a23:=isAgg3
 z23:=sizeOf3
 v23:=zeroValue3
 t44:=underlying116
 a44:=isAgg116
 z44:=sizeOf116
 v44:=zeroValue116
 t51:=underlying256
 a51:=isAgg256
 z51:=sizeOf256
 v51:=zeroValue256
 t60:=underlying327
 a60:=isAgg327
 z60:=sizeOf327
 v60:=zeroValue327
 t61:=underlying328
 a61:=isAgg328
 z61:=sizeOf328
 v61:=zeroValue328
 t67:=underlying334
 a67:=isAgg334
 z67:=sizeOf334
 v67:=zeroValue334
 t69:=underlying336
 a69:=isAgg336
 z69:=sizeOf336
 v69:=zeroValue336
 t75:=underlying386
 a75:=isAgg386
 z75:=sizeOf386
 v75:=zeroValue386
 t79:=underlying390
 a79:=isAgg390
 z79:=sizeOf390
 v79:=zeroValue390
 t83:=underlying433
 a83:=isAgg433
 z83:=sizeOf433
 v83:=zeroValue433
 t84:=underlying434
 a84:=isAgg434
 z84:=sizeOf434
 v84:=zeroValue434 }
end Go.Proofs
namespace Go.W
open Go Go.Proofs
open Enc (enc)
set_option maxRecDepth 10000
variable {B i j k m n n2 n3:Nat} {P:Program} {a a2 a3:Option Addr} {g:GrD} {ps:List Int} {q:QyD} {s:List UInt8} {u u' w' w1 w2:World}
structure RPo where
 word:ByteArray
 pl:SV
instance:Enc RPo:=⟨2,λx=>[.string x.word,.slice x.pl.a x.pl.n x.pl.c],λ_=>rfl,by intro x u hu;simp at hu;rcases hu with rfl|rfl <;> rfl,by decide⟩
instance:LawfulBEq ByteArray where
 eq_of_beq h:=(zCm _ _).1 h
 rfl:=(zCm _ _).2 rfl
def plOf (g:GrD) (s:ByteArray):List Int:=((List.range g.n).filter λv=>(g.ws.getD v []).contains s).map λv:Nat=>(v:Int)
theorem zCc{s:ByteArray}{x:Int}:x∈plOf g s↔∃v:Nat,x=v/\v<g.n/\s∈g.ws.getD v []:=by
 unfold plOf;simp only [Qq,QC,Q0,VA];constructor
 ·rintro⟨v,⟨b,c⟩,rfl⟩;exact⟨v,rfl,b,c⟩
 ·rintro⟨v,rfl,b,c⟩;exact⟨v,⟨b,c⟩,rfl⟩
theorem zCf(g:GrD)(s:ByteArray):(plOf g s).length<=g.n:=by
 unfold plOf;rw [Qr];exact Qw (Qv _ _) (by simp)
structure PosM (w:World) (g:GrD) (ws:List ByteArray) (ps:List RPo):Prop where
 ris:ws.Pairwise ltW
 all:∀s,s∈ws↔∃l∈g.ws,s∈l
 len:ps.length=ws.length
 at':∀i (h:i<ps.length) (h':i<ws.length),ps[i].word=ws[i]/\SlF w ps[i].pl.v (plOf g ws[i])
theorem PosM.up{w:World}[Le w w']{b:List ByteArray}{ps:List RPo}(h:PosM w g b ps):PosM w' g b ps:=⟨h.ris,h.all,h.len,λi c d=>⟨(h.at' i c d).1,(h.at' i c d).2.up⟩⟩
theorem zIN{κ:Type}[DecidableEq κ](k:κ)(v:Value):∀m:List (κ×Value),(setM k v m).length<=m.length+1
 |[]=>by simp [setM]
 |(b,c)::r=>by
  unfold setM;split
  ·simp
  ·have:=zIN k v r;simp only [QA];omega
structure SetB (w:World) (b:Nat) (m:List (Int×Value)) (f:Int->Prop):Prop where
 mp:MapB PP 3 w b m
 bool:∀p∈m,∃x:Bool,p.2=.bool x
 has:∀n,f n↔(n,Value.bool true)∈m
 len:m.length<=1000
theorem SetB.up{w:World}[Le w w']{b:Nat}{m:List (Int×Value)}{f:Int->Prop}(h:SetB w b m f):SetB w' b m f:=⟨h.mp.up,h.bool,h.has,h.len⟩
theorem SetB.look{w:World}{b:Nat}{m:List (Int×Value)}{f:Int->Prop}(h:SetB w b m f)(n:Int):(f n/\(getM m n).getD (.bool false)=.bool true)\/(¬f n/\(getM m n).getD (.bool false)=.bool false):=by
 have e:=h.mp.2
 cases c:getM m n with
 |none =>
  refine .inr ⟨λd=>?_,rfl⟩;have:=zAK e ((h.has n).1 d);rw [c] at this;cases this
 |some v =>
  have l:=zA1 c;have p:=h.bool _ l;obtain⟨x,o⟩:=p;simp only at o;subst o
  cases x with
  |true=>exact .inl ⟨(h.has n).2 l,rfl⟩
  |false =>
   refine .inr ⟨λd=>?_,rfl⟩;have:=zAK e ((h.has n).1 d);rw [c] at this;cases this
theorem zEX{c:Nat}{l:List Int}{w:World}(h:SlF w (.slice a n c) l)(J:l.length<=1000):
  Sp PP 383 #[.slice a n c] w λv w'=>(∃b m,v=.map (some b)/\SetB w' b m (·∈l)/\w.heap.size<=b)/\Stp w w':=by
 have f:=h.len;obtain rfl:=f;refine eN ?_;refine rmkNB (kt:=3) (κ:=Int) rfl λb w1 n1 y=>?_;have z:=n1.lo (u:=w);refine cN 9 [5] 9 l.length (λk u=>∃m,SetB u b m (·∈l.take k)/\m.length<=k/\Stp w u) ⟨[],⟨y,by simp,by simp,by simp⟩,by simp,stp⟩ ?_;rintro k g u K ⟨m,S,L,t⟩;refine ite (λhlt=>?_) (λA=>?_)
 ·have o:k<l.length:=by omega
  refine rix (h.up (w':=u)) (x:=l[k]) (by simp) λM N C=>rload1 (C.cell0 rfl) (rupdB S.mp l[k] rfl λD E F _=>?_);have G:=zIN l[k] (.bool true) m
  have H:SetB D b (setM l[k] (.bool true) m) (·∈l.take (k+1)):=by
   refine⟨E,λp I=>?_,λx=>?_,by omega⟩
   ·obtain⟨O,Q⟩:=p;have f:=(zAg S.mp.2).1 I;rcases f with ⟨_,r⟩|⟨_,r⟩
    ·exact⟨true,r⟩
    ·exact S.bool _ r
   ·rw [zAg S.mp.2,take_add o,Qf,Qc,S.has];constructor
    ·rintro(d|d)
     ·by_cases e:x=l[k]
      ·exact .inl ⟨e,rfl⟩
      ·exact .inr ⟨e,d⟩
     ·exact .inl ⟨d,rfl⟩
    ·rintro(⟨d,_⟩|⟨_,d⟩)
     ·exact .inr d
     ·exact .inl d
  exact rA ⟨rfl,o,_,H,by omega,⟨Fr.st t.e F λi hi=>by omega⟩⟩
 ·have f:k=l.length:=by omega
  obtain rfl:=f;rw [Qg] at S;exact⟨⟨b,m,rfl,S,z⟩,t⟩
theorem zHR{bs bo:Nat}{K mo:List (Int×Value)}{f g:Int->Prop}{w:World}(S:SetB w bs K f)(O:SetB w bo mo g):
  Sp PP 357 #[.map (some bs),.map (some bo)] w λv w'=>(∃b m,v=.map (some b)/\SetB w' b m (λn=>f n/\g n)/\w.heap.size<=b)/\Stp w w':=by
 refine eN ?_;refine rmkNB (kt:=3) (κ:=Int) rfl λb w1 n1 M1=>?_;have hb:=n1.lo (u:=w);have U:=S.mp.2;have a4:=S.len;refine rnx rfl (rrangeM (S.mp.up (w':=w1)) λr w2 nr V _=>?_);have hr:=nr.b;have a5:=n1.b;have a6:=n1.s;have L:¬b=r:=by omega
 refine loop0G TBok 11 [6,7] (λi u=>∃(done rest:List (Int×Value)) (m:List (Int×Value)),rest.length=i/\(done++rest).Perm K/\SetB u b m (λn=>(n,Value.bool true)∈done/\g n)/\m.length<=done.length/\(∀p∈m,∃v,(p.1,v)∈done)/\ItB PP 3 u r bs rest/\Stp w u) rfl
  ⟨_,[],K,[],rfl,.refl _,⟨M1.up,by simp,by simp,by simp⟩,by simp,by simp,V,stp⟩ ?_
 rintro i G u ⟨done,rest,m,hi,A,o,a7,W,It,su⟩;refine rnx rfl (rnextM It (λD=>?_) λx v c T E hC f2 a8=>?_)
 ·subst D;rw [QE] at A;refine⟨⟨b,m,rfl,⟨o.mp,o.bool,λn=>?_,o.len⟩,hb⟩,su⟩;rw [<-o.has,S.has,A.mem_iff]
 ·have X:(x,v)∈K:=A.mem_iff.1 (JJ _ (E.mem_iff.1 Qs));have t:=S.bool _ X;obtain⟨M,N⟩:=t;simp only at N;subst N;have s2:Stp w T:=⟨Fr.st su.e f2 λi hi=>by omega⟩;have F:MapB PP 3 T b m:=o.mp.fr f2 L
  have H:(done++[(x,Value.bool M)]++c).Perm K:=by
   rw [Qp];exact(Vp done E).trans A
  have Y:∀v,(x,v)∉done:=λv Z=>by
   have Q:=(H.map (·.1)).nodup_iff.2 U;rw [QB,QB] at Q;have:=(JU.1 (JU.1 Q).1).2.2 x (Qq.2 ⟨_,Z,rfl⟩) x (by simp);exact this rfl
  have a0:=H.length_eq;simp only [Qb,QA,QZ] at a0;refine rnx rfl (rentryM hC ?_)
  have fin:∀(y:Bool) (h:World),(y=true↔M=true/\g x)->MapB PP 3 h b (setM x (.bool y) m)->Fr (λi=>i=b) T h->∃i',i'<i/\∃(done rest:List (Int×Value)) (m:List (Int×Value)),rest.length=i'/\(done++rest).Perm K/\SetB h b m (λn=>(n,Value.bool true)∈done/\g n)/\m.length<=done.length/\(∀p∈m,∃v,(p.1,v)∈done)/\ItB PP 3 h r bs rest/\Stp w h:=by
   intro y h hy I C;have a9:=zIN x (.bool y) m;have a1:=E.length_eq;rw [QA] at a1;refine⟨c.length,by omega,done++[(x,.bool M)],c,setM x (.bool y) m,rfl,H,⟨I,λp A=>?_,λn=>?_,by omega⟩,by simp;omega,λp A=>?_,hC.b.fr C (λe=>L e.symm) (λe=>by have:=S.mp.lt;omega),⟨Fr.st s2.e C λi hi=>by omega⟩⟩
   ·obtain⟨p1,p2⟩:=p;have t:=(zAg o.mp.2).1 A;rcases t with ⟨_,d⟩|⟨_,d⟩
    ·exact⟨y,d⟩
    ·exact o.bool _ d
   ·rw [zAg o.mp.2,Qf,Qc];constructor
    ·rintro⟨z|z,d⟩
     ·refine .inr ⟨λe=>?_,(o.has n).1 ⟨z,d⟩⟩;subst e;exact Y _ z
     ·injection z with R J;injection J with J;subst R;exact .inl ⟨rfl,by rw [hy.2 ⟨J.symm,d⟩]⟩
    ·rintro(⟨z,d⟩|⟨z,d⟩)
     ·injection d with d;subst z;have t:=hy.1 d.symm;obtain⟨R,J⟩:=t;exact⟨.inr (by rw [R]),J⟩
     ·have t:=(o.has n).2 d;obtain⟨R,J⟩:=t;exact⟨.inl R,J⟩
   ·obtain⟨p1,p2⟩:=p;have t:=(zAg o.mp.2).1 A;rcases t with ⟨z,_⟩|⟨_,d⟩
    ·exact⟨.bool M,by rw [z];simp⟩
    ·obtain⟨v,Z⟩:=W _ d;exact⟨v,QN _ Z⟩
  cases M with
  |true =>
   have OO:=O.up (w':=T);refine rlook OO.mp.l x rfl ?_;have t:=OO.look x;rcases t with ⟨hg,e⟩|⟨hg,e⟩
   ·rw [e];exact rupdB F x rfl λh I C _=>fin true h (by simp [hg]) I C
   ·rw [e];exact rupdB F x rfl λh I C _=>fin false h (by simp [hg]) I C
  |false =>
   exact rupdB F x rfl λh I C _=>fin false h (by simp) I C
end Go.W
namespace Go.Proofs
open Go.Shelf Tryz
def Tryz.sortT_ren:Go.Shelf.Ren:=⟨fun|54=>95|64=>165|65=>164|78=>259|79=>260|80=>250|81=>251|82=>252|83=>253|84=>254|85=>255|61=>256|86=>257|87=>258|93=>329|89=>330|90=>331|94=>332|95=>333|69=>334|97=>375|n=>n,fun|25=>38|26=>9|3=>3|51=>256|0=>0|67=>334|69=>336|4=>4|61=>328|60=>327|44=>116|5=>5|9=>9|75=>386|79=>390|83=>433|84=>434|n=>n,fun|n=>n⟩
theorem Tryz.sortT:Go.Proofs.SlLaysN.n54 prog Tryz.sortT_ren:={
 mixed:=by kernel_rfl
 f54:=⟨f95.name,by decide,W.ff func95⟩
 f61:=⟨f256.name,by decide,W.ff func256⟩
 f64:=W.ff func165
 f65:=⟨f164.name,by decide,W.ff func164⟩
 f69:=⟨f334.name,by decide,W.ff func334⟩
 f78:=W.ff func259
 f79:=W.ff func260
 f80:=⟨f250.name,by decide,W.ff func250⟩
 f81:=⟨f251.name,by decide,W.ff func251⟩
 f82:=⟨f252.name,by decide,W.ff func252⟩
 f83:=⟨f253.name,by decide,W.ff func253⟩
 f84:=⟨f254.name,by decide,W.ff func254⟩
 f85:=⟨f255.name,by decide,W.ff func255⟩
 f86:=⟨f257.name,by decide,W.ff func257⟩
 f87:=⟨f258.name,by decide,W.ff func258⟩
 f89:=W.ff func330
 f90:=W.ff func331
 f93:=⟨f329.name,by decide,W.ff func329⟩
 f94:=⟨f332.name,by decide,W.ff func332⟩
 f95:=⟨f333.name,by decide,W.ff func333⟩
 f97:=⟨f375.name,by decide,W.ff func375⟩
 t0:=underlying0
 a0:=isAgg0
 z0:=sizeOf0
 v0:=zeroValue0
 t3:=underlying3
 a3:=isAgg3
 z3:=sizeOf3
 v3:=zeroValue3
 t4:=underlying4
 a4:=isAgg4
 z4:=sizeOf4
 v4:=zeroValue4
 t5:=underlying5
 a5:=isAgg5
 z5:=sizeOf5
 v5:=zeroValue5
 t9:=underlying9
 a9:=isAgg9
 z9:=sizeOf9
 v9:=zeroValue9
 t25:=underlying38
 a25:=isAgg38
 z25:=sizeOf38
 v25:=zeroValue38
 t26:=underlying9
 a26:=isAgg9
 z26:=sizeOf9
 v26:=zeroValue9
 t44:=underlying116
 a44:=isAgg116
 z44:=sizeOf116
 v44:=zeroValue116
 t51:=underlying256
 a51:=isAgg256
 z51:=sizeOf256
 v51:=zeroValue256
 t60:=underlying327
 a60:=isAgg327
 z60:=sizeOf327
 v60:=zeroValue327
 t61:=underlying328
 a61:=isAgg328
 z61:=sizeOf328
 v61:=zeroValue328
 t67:=underlying334
 a67:=isAgg334
 z67:=sizeOf334
 v67:=zeroValue334
 t69:=underlying336
 a69:=isAgg336
 z69:=sizeOf336
 v69:=zeroValue336
 t75:=underlying386
 a75:=isAgg386
 z75:=sizeOf386
 v75:=zeroValue386
 t79:=underlying390
 a79:=isAgg390
 z79:=sizeOf390
 v79:=zeroValue390
 t83:=underlying433
 a83:=isAgg433
 z83:=sizeOf433
 v83:=zeroValue433
 t84:=underlying434
 a84:=isAgg434
 z84:=sizeOf434
 v84:=zeroValue434 }
end Go.Proofs
namespace Go.W
open Go Go.Proofs
open Enc (enc)
set_option maxRecDepth 10000
variable {B i j k m n n2 n3:Nat} {P:Program} {a a2 a3:Option Addr} {g:GrD} {ps:List Int} {q:QyD} {s:List UInt8} {u u' w' w1 w2:World}
structure RowM (B:Nat) (w:World) (bm:Nat) (m:List (ByteArray×Value)) (f:ByteArray->List Int):Prop where
 lo:B<=bm
 map:MapL PP 9 w bm m
 rows:∀s v,(s,v)∈m->Own B 3 w v (f s)/\f s≠[]
 empt:∀s,s∉m.map (·.1)->f s=[]
 apart:∀s v s' v',(s,v)∈m->(s',v')∈m->s≠s'->∀g,Value.blk v=some g->Value.blk v'≠some g
theorem RowM.up{w:World}[Le w w']{b:Nat}{m:List (ByteArray×Value)}{f:ByteArray->List Int}(h:RowM B w b m f):RowM B w' b m f:=
 ⟨h.lo,h.map.up,λs v c=>⟨(h.rows s v c).1.up,(h.rows s v c).2⟩,h.empt,h.apart⟩
theorem RowM.kept{b:List TypeId}{w:World}{c:Nat}{m:List (ByteArray×Value)}{f:ByteArray->List Int}(h:RowM B w c m f)(F:FrT B b w w')(e:3∉b)(l:mapK∉b):RowM B w' c m f:=
 ⟨h.lo,h.map.kept F l,λs v d=>⟨(h.rows s v d).1.kept F e,(h.rows s v d).2⟩,h.empt,h.apart⟩
theorem RowM.look{w:World}{l:Nat}{m:List (ByteArray×Value)}{f:ByteArray->List Int}(h:RowM B w l m f)(s:ByteArray):
  Own B 3 w ((getM m s).getD (.slice none 0 0)) (f s)/\∀g,Value.blk ((getM m s).getD (.slice none 0 0))=some g->∃c,(s,c)∈m/\Value.blk c=some g:=by
 cases d:getM m s with
 |none =>
  rw [h.empt s (zDq.1 d)];exact⟨Own.nil _ _ _,λg b=>nomatch b⟩
 |some v =>
  have e:=zA1 d;exact⟨(h.rows s v e).1,λg b=>⟨v,e,b⟩⟩
theorem RowM.push{w D:World}{H:Nat}{m:List (ByteArray×Value)}{f:ByteArray->List Int}{s:ByteArray}{n:Int}{E:Value}(h:RowM B w H m f)
  (O:Own B 3 D E (f s++[n]))(R:Fr (ownD B ((getM m s).getD (.slice none 0 0))) w D)
  (y:Value.blk E=Value.blk ((getM m s).getD (.slice none 0 0))\/Value.blk E=some w.heap.size)(M:MapL PP 9 u H (setM s E m))(W:Fr (λi=>i=H) D u):
  RowM B u H (setM s E m) (λs'=>if s'=s then f s'++[n] else f s')/\FrT B [3,mapK] w u:=by
 have b:=h.look s;obtain⟨I,F⟩:=b;have z:=h.map.2;have Z:FrT B [3,mapK] w D:=I.wrote R (Qe _) (by decide);have X:MapL PP 9 D H m:=h.map.frO I R;have F2:FrT B [3,mapK] D u:=X.wrote W h.lo (by decide);have J:FrT B [mapK] D u:=X.wrote W h.lo (by decide)
 have lt:∀d o,(d,o)∈m->∃g,Value.blk o=some g/\g<w.heap.size:=λd o t=>by
  have b:=h.rows d o t;obtain⟨G,c⟩:=b;have b:=G.lt c;obtain⟨g,K,_,S⟩:=b;exact⟨g,K,S⟩
 have nd:∀d o,(d,o)∈m->d≠s->∀g,Value.blk o=some g->¬ownD B ((getM m s).getD (.slice none 0 0)) g:=λd o t c g r hd=>by
  have b:=F g hd.2.1;obtain⟨L,v,x⟩:=b;exact h.apart d o s L t v c g r x
 refine⟨⟨h.lo,M,λd o t=>?_,λd N=>?_,λd o T U S Y c g r l=>?_⟩,Z.trans F2⟩
 ·have b:=(zAg z).1 t;rcases b with ⟨rfl,rfl⟩|⟨c,p⟩
  ·rw [if_pos rfl];exact⟨O.kept J (by decide),by simp⟩
  ·rw [if_neg c];have b:=h.rows d o p;obtain⟨G,C⟩:=b;exact⟨(G.fr R λg _ r=>nd d o p c g r).kept J (by decide),C⟩
 ·have V:d≠s:=by rintro rfl;exact N ((setM_keys d E m d).2 (.inl rfl))
  rw [if_neg V];exact h.empt d λhm=>N ((setM_keys s E m d).2 (.inr hm))
 ·have b:=(zAg z).1 S;rcases b with ⟨rfl,rfl⟩|⟨C,p⟩
  ·have b:=(zAg z).1 Y;rcases b with ⟨e,_⟩|⟨Q,A⟩
   ·exact c e.symm
   ·rcases y with y|y
    ·rw [y] at r;have b:=F g r;obtain⟨L,v,x⟩:=b;exact h.apart _ L T U v A c g x l
    ·rw [y] at r;cases r;have b:=lt T U A;obtain⟨g',K,h4⟩:=b;rw [K] at l;cases l;omega
  ·have b:=(zAg z).1 Y;rcases b with ⟨rfl,rfl⟩|⟨Q,A⟩
   ·rcases y with y|y
    ·rw [y] at l;have b:=F g l;obtain⟨L,v,x⟩:=b;exact h.apart d o _ L p v c g r x
    ·rw [y] at l;cases l;have b:=lt d o p;obtain⟨g',K,h4⟩:=b;rw [K] at r;cases r;omega
   ·exact h.apart d o T U p A c g r l
def fK (g:GrD) (k:Nat) (s:ByteArray):List Int:=((List.range k).filter λv=>(g.ws.getD v []).contains s).map λv:Nat=>(v:Int)
def fJ (g:GrD) (k j:Nat) (s:ByteArray):List Int:=fK g k s++if s∈(g.ws.getD k []).take j then [(k:Int)] else []
theorem fK_all(g:GrD)(s:ByteArray):fK g g.n s=plOf g s:=rfl
theorem fK_len(g:GrD)(k:Nat)(s:ByteArray):(fK g k s).length<=k:=by
 unfold fK;rw [Qr];exact Qw (Qv _ _) (by simp)
theorem zCV(g:GrD)(k:Nat):fJ g k 0=fK g k:=by
 funext s;simp [fJ]
theorem fJ_end(h:j=(g.ws.getD k []).length):fJ g k j=fK g (k+1):=by
 funext s;subst h;unfold fJ fK;rw [Qg,Jm,QV,QB];congr 1;simp only [Vj,List.filter_nil,VA];split <;> simp
theorem zMD{l:List ByteArray}(b:g.ws.getD k []=l)(c:j<l.length)(d:l.Nodup):fJ g k (j+1)=λs=>if s=l[j] then fJ g k j s++[(k:Int)] else fJ g k j s:=by
 funext s;unfold fJ;rw [b,take_add c];simp only [Qf,Qc];by_cases e:s=l[j]
 ·rw [if_pos e,if_pos (.inr e)]
  have:s∉l.take j:=by
   rw [e,List.mem_take_iff_getElem];rintro⟨i,hi,f⟩;have:=(VQ d).1 f;omega
  rw [if_neg this,QE]
 ·rw [if_neg e];simp [e]
theorem ltW_nd{l:List ByteArray}(h:l.Pairwise ltW):l.Nodup:=by
 rw [Qx];exact h.imp λ{a b} c e=>by subst e;exact List.lt_irrefl _ c
theorem zQf(t:g.ws.length=g.n){s:ByteArray}:plOf g s≠[]↔∃l∈g.ws,s∈l:=by
 constructor
 ·intro h;have b:=List.exists_cons_of_ne_nil h;obtain⟨x,r,e⟩:=b;have o:x∈plOf g s:=by rw [e];exact Qs
  have b:=zCc.1 o;obtain⟨v,_,f,d⟩:=b;have c:v<g.ws.length:=by omega
  rw [Qk,Qd c,QP] at d;exact⟨_,Qa c,d⟩
 ·rintro⟨l,p,d⟩ h;have b:=QI.1 p;obtain⟨v,f,rfl⟩:=b;have:(v:Int)∈plOf g s:=zCc.2 ⟨v,rfl,by omega,by rw [Qk,Qd f,QP];exact d⟩;rw [h] at this;cases this
def MakI (g:GrD) (B bm:Nat) (k j:Nat) (v:Value) (u:World):Prop:=
 ∃m Wd,Own B 9 u v Wd/\RowM B u bm m (fJ g k j)/\Wd.Nodup/\(∀s,s∈Wd↔fJ g k j s≠[])/\Wd.length<=8*k+j
theorem zHQ{x:RGr}{vs:List SV}{w:World}(V:GrV w x g vs)(hg:GrIs g):
  Sp PP 44 #[agg x] w λv w'=>(∃a c ps ws,v=.tuple #[.slice a ps.length c,.int .i64 0]/\PosM w' g ws ps/\SlF w' (.slice a ps.length c) ps/\ps.length<=2000/\Own w.heap.size 170 w' (.slice a ps.length c) ps/\∀i (h:i<ps.length) (K:i<ws.length),Own w.heap.size 3 w' ps[i].pl.v (plOf g ws[i]))/\Stp w w':=by
 have d0:=hg.ok.n2;have d1:=hg.nw;have d2:vs.length=g.ws.length:=V.rows.1;obtain⟨xn,S,⟨wa,wn,wc⟩⟩:=x;have t:vs.length=wn:=V.ws.len.symm;obtain rfl:=t;have b7:SlF w (.slice wa vs.length wc) vs:=V.ws;have a4:agg (⟨xn,S,⟨wa,vs.length,wc⟩⟩:RGr)=.agg #[.int .i64 xn,.slice S.a S.n S.c,.slice wa vs.length wc]:=rfl;rw [a4];refine eN ?_;refine rbx λb w1 n1 B1=>rldG (ds:=[.int .i64 xn,.slice S.a S.n S.c,.slice wa vs.length wc]) (B:=B1) rfl rfl (rcall (zDJ (V.up (w':=w1))) ?_);rintro _ w2 ⟨⟨rfl,_⟩|⟨rfl,h2⟩,e2⟩
 case' inr=>exact absurd hg h2
 refine rmkN (kt:=9) (κ:=ByteArray) rfl λC w3 n3 M3=>?_;have b8:=n3.lo (u:=w);refine rX B1 rfl ?_;have R0:RowM w.heap.size w3 C [] (fK g 0):=⟨b8,M3,by simp,λs _=>rfl,by simp⟩;have I0:MakI g w.heap.size C 0 0 (.slice none 0 0) w3:=⟨[],[],Own.nil _ _ _,by rw [zCV];exact R0,.nil,λs=>by rw [zCV];simp [fK],by simp⟩;refine cO 20 [6,7,9] 5 20 vs.length (λk v u=>MakI g w.heap.size C k 0 v u/\Stp w u) ⟨I0,stp⟩ ?_;rintro k v G u hk ⟨I,su⟩;refine ite (λhlt=>?_) (λd3=>?_)
 ·have M:k<vs.length:=by omega
  have N:k<g.ws.length:=by omega
  refine rix (b7.up (w':=u)) (x:=vs[k]) (by simp) λb1 o1 A1=>rload1 (A1.cell0 rfl) ?_;have hR:SlF w vs[k].v g.ws[k]:=V.rows.2 k M N;have a5:g.ws.getD k []=g.ws[k]:=by rw [Qk,Qd N,QP]
  have a6:=hR.len;have d4:=(hg.word _ (Qa N)).1;have b9:=ltW_nd (hg.wr _ (Qa N));generalize d5:g.ws[k]=l at *;generalize d6:vs[k]=sv at *;obtain⟨sa,sn,sc⟩:=sv;simp only at a6;subst a6;refine cO 27 [9] 5 27 l.length (λj v u=>MakI g w.heap.size C k j v u/\Stp w u) ⟨I,su⟩ ?_;rintro j v G2 u2 hj ⟨⟨m,Wd,T,L,E,y,c0⟩,s2⟩;refine ite (λa7=>?_) (λa8=>?_)
  ·dsimp only at a7;have U:j<l.length:=by omega
   refine rix (hR.up (w':=u2)) (x:=l[j]) (by simp) λb3 o3 A3=>rload1 (A3.cell0 rfl) ?_;have A:=L.look l[j];obtain⟨O,c1⟩:=A;have O':=O;have W:=O.shape;obtain⟨oa,oc,F⟩:=W;rw [F] at O';refine rlookE L.map l[j] rfl (by exact F) ?_
   have d7:(fJ g k j l[j]).length<=201:=by
    unfold fJ;rw [Qb];have:=fK_len g k l[j];split <;> simp <;> omega
   have H:=zMD a5 U b9;have d8:w.heap.size<=u2.heap.size:=lz w u2
   have fin:∀(u0 u1 Q:World) (v2 v':Value) (D:List ByteArray),Own w.heap.size 9 u0 v2 D->RowM w.heap.size u0 C m (fJ g k j)->D.Nodup->(∀s,s∈D↔s=l[j]\/fJ g k j s≠[])->D.length<=8*k+(j+1)->Stp w u0 ->
     Own w.heap.size 3 u1 v' (fJ g k j l[j]++[(k:Int)])->Fr (ownD w.heap.size ((getM m l[j]).getD (.slice none 0 0))) u0 u1->(Value.blk v'=Value.blk ((getM m l[j]).getD (.slice none 0 0))\/Value.blk v'=some u0.heap.size) ->
     MapL PP 9 Q C (setM l[j] v' m)->Fr (λi=>i=C) u1 Q->MakI g w.heap.size C k (j+1) v2 Q/\Stp w Q:=λu0 u1 Q v2 v' D O2 R2 h1 h2 h3 s0 O1 f1 hv M3 f3=>by
    have hc:=R2.push O1 f1 hv M3 f3;rw [<-H] at hc;refine⟨⟨_,D,O2.kept hc.2 (by decide),hc.1,h1,λs=>?_,h3⟩,⟨FrT.st s0.e hc.2 (Qe _)⟩⟩;rw [h2,H];by_cases e:s=l[j]
    ·simp [e]
    ·simp [e]
   refine ite (λhz=>?_) (λc2=>?_)
   ·have c3:fJ g k j l[j]=[]:=Qn (by omega);have a9:l[j]∉Wd:=λhm=>(y _).1 hm c3;refine rbs1 l[j] rfl rfl (by decide) λb3 w3 n3 _ S3=>rapp1 (u:=w) ⟨rfl,rfl⟩ (T.up (w':=w3)) S3 (by omega) λv3 Q J f3 s3=>?_;have p:RowM w.heap.size Q C m (fJ g k j):=(L.up (w':=w3)).kept ((T.up (w':=w3)).wrote f3 (Qe _) (show 9∈[9] by decide)) (by decide) (by decide);have O3:=(p.look l[j]).1;have t:∃x,x=Wd++[l[j]]:=⟨_,rfl⟩;obtain⟨z,o⟩:=t;rw [<-o] at J
    have R:z.Nodup:=by
     rw [o,JU];exact⟨E,by simp,λa ha b hb e=>a9 (by rw [Qc.1 hb] at e;exact e ▸ ha)⟩
    have X:∀s,s∈z↔s=l[j]\/fJ g k j s≠[]:=λs=>by
     rw [o,Qf,Qc,y];exact Or.comm
    have Y:z.length<=8*k+(j+1):=by rw [o];simp;omega
    refine rlook p.map l[j] rfl (bS (k:Int) λb5 r n5 _ S5=>?_);have h5:w.heap.size<=r.heap.size:=lz w r;refine rappD ⟨rfl,rfl⟩ (O3.up (w':=r)) S5 (by simp) h5 (by simp;omega) λv6 Z O6 f6 hv=>?_;have M6:MapL PP 9 Z C m:=(p.map.up (w':=r)).frO (O3.up (w':=r)) f6;refine rupd M6 l[j] rfl λw7 M7 f7 _=>?_;have q7:=fin r Z w7 v3 v6 z (J.up (w':=r)) (p.up (w':=r)) R X Y stp O6 f6 hv M7 f7;exact rA ⟨rfl,U,q7.1,q7.2⟩
   ·have b0:fJ g k j l[j]≠[]:=λe=>c2 (by rw [e];rfl);have t:∃x,x=v:=⟨_,rfl⟩;obtain⟨v3,rfl⟩:=t;have t:∃x,x=Wd:=⟨_,rfl⟩;obtain⟨z,o⟩:=t;have J:=T;have p:=L;have O3:=O;have R:=E;rw [<-o] at J;rw [<-o] at R
    have X:∀s,s∈z↔s=l[j]\/fJ g k j s≠[]:=λs=>by
     rw [o,y];constructor
     ·exact .inr
     ·rintro(rfl|h)
      ·exact b0
      ·exact h
    have Y:z.length<=8*k+(j+1):=by rw [o];omega
    refine rlook p.map l[j] rfl (bS (k:Int) λb5 r n5 _ S5=>?_);have h5:w.heap.size<=r.heap.size:=lz w r;refine rappD ⟨rfl,rfl⟩ (O3.up (w':=r)) S5 (by simp) h5 (by simp;omega) λv6 Z O6 f6 hv=>?_;have M6:MapL PP 9 Z C m:=(p.map.up (w':=r)).frO (O3.up (w':=r)) f6;refine rupd M6 l[j] rfl λw7 M7 f7 _=>?_;have q7:=fin r Z w7 v3 v6 z (J.up (w':=r)) (p.up (w':=r)) R X Y stp O6 f6 hv M7 f7;exact rA ⟨rfl,U,q7.1,q7.2⟩
  ·dsimp only at a8;have t:j=l.length:=by omega
   obtain rfl:=t;rw [fJ_end (by rw [a5])] at L y;exact rA ⟨rfl,M,⟨m,Wd,T,by rw [zCV];exact L,E,λs=>by rw [zCV];exact y s,by omega⟩,s2⟩
 ·have t:k=vs.length:=by omega
  obtain rfl:=t;obtain⟨m,Wd,T,L,E,y,c0⟩:=I;rw [zCV] at L y;rw [show vs.length=g.n by omega] at L y;refine rcall (zPI Tryz.sortT (f:=95) rfl T (by omega)) ?_;rintro _ u2 ⟨rfl,d,hp,hs,OS,f2⟩;have c4:RowM w.heap.size u2 C m (fK g g.n):=L.kept (T.wrote f2 (Qe _) (show 9∈[9] by decide)) (by decide) (by decide);have s2:Stw w u u2:=zAI f2;have b2:d.Nodup:=hp.nodup_iff.2 E;have d9:=hp.length_eq;have P0:(∀s,s∈d↔∃l∈g.ws,s∈l):=λs=>by rw [hp.mem_iff,y,<-zQf hg.nw];rfl
  have c5:d.Pairwise ltW:=by
   rw [Qx] at b2
   exact(hs.and b2).imp λ{a b} ⟨h1,h2⟩=>by
    have t:=zFr a b;rcases t with h|h|h
    ·exact h
    ·exact absurd h h2
    ·exact absurd h1 (List.not_le.2 h)
  have t:=OS.shape;obtain⟨c6,c7,rfl⟩:=t
  refine cO 54 [12] 10 54 d.length (λk v u=>∃ps:List RPo,Own w.heap.size 170 u v ps/\ps.length=k/\(∀i (h:i<ps.length) (K:i<d.length),ps[i].word=d[i]/\ps[i].pl.v=(getM m d[i]).getD (.slice none 0 0))/\RowM w.heap.size u C m (fK g g.n)/\Own w.heap.size 9 u (.slice c6 d.length c7) d/\Stp w u)
   ⟨[],Own.nil _ _ _,rfl,by simp,c4,OS,stp⟩ ?_
  rintro k v G3 Q e0 ⟨ps,OP,a0,a1,p,b4,s3⟩;refine ite (λc8=>?_) (λc9=>?_)
  ·have M:k<d.length:=by omega
   refine rix b4.sl (x:=d[k]) (by simp) λb3 o3 A3=>rload1 (A3.cell0 rfl) ?_;have A:=p.look d[k];obtain⟨O,c1⟩:=A;have W:=O.shape;obtain⟨oa,oc,F⟩:=W;refine rlookE p.map d[k] rfl (by exact F) ?_;refine rbuild (cs:=enc (⟨d[k],⟨oa,(fK g g.n d[k]).length,oc⟩⟩:RPo)) rfl (bS (⟨d[k],⟨oa,(fK g g.n d[k]).length,oc⟩⟩:RPo) λb5 r n5 _ S5=>rapp1 (u:=w) ⟨rfl,rfl⟩ (OP.up (w':=r)) S5 (by omega) λv6 Z O6 f6 s6=>?_);have F6:FrT w.heap.size [170] r Z:=(OP.up (w':=r)).wrote f6 (Qe _) (by decide)
   have b6:∀i (h:i<(ps++[(⟨d[k],⟨oa,(fK g g.n d[k]).length,oc⟩⟩:RPo)]).length) (K:i<d.length),(ps++[(⟨d[k],⟨oa,(fK g g.n d[k]).length,oc⟩⟩:RPo)])[i].word=d[i]/\(ps++[(⟨d[k],⟨oa,(fK g g.n d[k]).length,oc⟩⟩:RPo)])[i].pl.v=(getM m d[i]).getD (.slice none 0 0):=λi h K=>by
    by_cases hi:i<ps.length
    ·rw [List.getElem_append_left hi];exact a1 i hi K
    ·have h3:i=k:=by simp at h;omega
     subst h3;rw [List.getElem_append_right (by omega)];simp only [a0,JN,Vb];exact⟨trivial,F.symm⟩
   exact rA ⟨rfl,M,_,O6,by simp [a0],b6,(p.up (w':=r)).kept F6 (by decide) (by decide),(b4.up (w':=r)).kept F6 (by decide),stp⟩
  ·have t:k=d.length:=by omega
   obtain rfl:=t;have t:=OP.shape;obtain⟨pa,pc,rfl⟩:=t
   have hO:∀i (h:i<ps.length) (K:i<d.length),Own w.heap.size 3 Q ps[i].pl.v (plOf g d[i]):=λi h K=>by
    rw [(a1 i h K).2];exact(p.look d[i]).1
   exact⟨⟨pa,pc,ps,d,rfl,⟨c5,P0,a0,λi h K=>⟨(a1 i h K).1,(hO i h K).sl⟩⟩,OP.sl,by omega,OP,hO⟩,s3⟩
theorem zNN:∀{a b:List Int},a.Pairwise (· < ·)->b.Pairwise (· < ·)->(∀x,x∈a↔x∈b)->a=b:=by
 intro a b e f h;have c:a.Nodup:=by rw [Qx];exact e.imp λh=>by omega
 have d:b.Nodup:=by rw [Qx];exact f.imp λh=>by omega
 have l:=(JM c d).2 h;exact l.eq_of_pairwise (λx y _ _ o p=>by omega) (e.imp λh=>Int.le_of_lt h) (f.imp λh=>Int.le_of_lt h)
def isT:Value->Bool
 |.bool true=>true
 |_=>false
theorem zQb{v:Value}:isT v=true↔v=.bool true:=by
 unfold isT;split <;> simp_all
theorem zGj{bs:Nat}{l:List (Int×Value)}{f:Int->Prop}{w:World}(S:SetB w bs l f):
  Sp PP 386 #[.map (some bs)] w λv w'=>(∃L:List Int,L.Pairwise (· < ·)/\(∀n,n∈L↔f n)/\Own w.heap.size 3 w' v L)/\Stp w w':=by
 have I:=S.mp.2;have a1:=S.len;refine eN ?_;refine rnx rfl (rrangeM S.mp λr w2 nr J _=>?_);have hr:=nr.b
 refine loop1G TBok 8 [4,5] 3 (λi v u=>∃(done rest:List (Int×Value)) (L:List Int),rest.length=i/\(done++rest).Perm l/\L=(done.filter λp=>isT p.2).map (·.1)/\Own w.heap.size 3 u v L/\ItB PP 3 u r bs rest/\Stp w u) rfl
  ⟨_,[],l,[],rfl,.refl _,rfl,Own.nil _ _ _,J,stp⟩ ?_
 rintro i vl G u ⟨done,rest,L,hi,A,rfl,O,It,su⟩;have K:=A.length_eq;rw [Qb] at K;have a4:((done.filter λp=>isT p.2).map (·.1)).length<=done.length:=by rw [Qr];exact Qv _ _
 refine rnx rfl (rnextM It (λo=>?_) λx v c t y M H a5=>?_)
 ·subst o;rw [QE] at A;refine rcall (zPH Tryz.sortI (f:=145) rfl O (by omega)) ?_;rintro _ t ⟨rfl,C,H⟩;have s2:Stw w u t:=zAI H;refine⟨⟨_,?_,λn=>?_,C⟩,stp⟩
  ·have N:=zOz ((done.filter λp=>isT p.2).map (·.1));have z:=zJt ((done.filter λp=>isT p.2).map (·.1))
   have Q:((done.filter λp=>isT p.2).map (·.1)).Nodup:=by
    have R:(done.map (·.1)).Nodup:=(A.map _).nodup_iff.2 I;exact R.sublist ((XY ..).map _)
   have D:=z.nodup_iff.2 Q;rw [Qx] at D;exact(N.and D).imp λ{a b} ⟨g1,g2⟩=>by omega
  ·rw [(zJt _).mem_iff,S.has,<-A.mem_iff,Qq];constructor
   ·rintro⟨⟨p1,p2⟩,z,rfl⟩;have T:=QC.1 z;obtain⟨R,h2⟩:=T;rw [<-zQb.1 h2];exact R
   ·intro h;exact⟨_,QC.2 ⟨h,rfl⟩,rfl⟩
 ·have U:(x,v)∈l:=A.mem_iff.1 (JJ _ (y.mem_iff.1 Qs));have T:=S.bool _ U;obtain⟨xb,E⟩:=T;simp only at E;subst E;have s2:Stp w t:=⟨Fr.st su.e H λi hi=>by omega⟩
  have F:(done++[(x,Value.bool xb)]++c).Perm l:=by
   rw [Qp];exact(Vp done y).trans A
  have V:=y.length_eq;rw [QA] at V;have C:Own w.heap.size 3 t vl ((done.filter λp=>isT p.2).map (·.1)):=O.itq (It.itq H (Qe r));refine rnx rfl (rentryM M ?_)
  cases xb with
  |true =>
   refine bS x λb6 W e6 _ S6=>rapp1 (u:=w) ⟨rfl,rfl⟩ (C.up (w':=W)) S6 (by omega) λv7 X O7 f7 s7=>?_
   have Y:((done++[(x,Value.bool true)]).filter λp=>isT p.2).map (·.1)=(done.filter λp=>isT p.2).map (·.1)++[x]:=by
    rw [QV,QB];simp [isT]
   rw [<-Y] at O7;have Z:=M.b.up (w':=W);have a0:=Z.fro (C.up (w':=W)) f7;have fin:∃(done d:List (Int×Value)) (L:List Int),d.length=c.length/\(done++d).Perm l/\L=(done.filter λp=>isT p.2).map (·.1)/\Own w.heap.size 3 X v7 L/\ItB PP 3 X r bs d/\Stp w X:=⟨done++[(x,Value.bool true)],c,_,rfl,F,rfl,O7,a0,stp⟩;exact⟨c.length,by omega,fin⟩
  |false =>
   have Y:((done++[(x,Value.bool false)]).filter λp=>isT p.2).map (·.1)=(done.filter λp=>isT p.2).map (·.1):=by
    rw [QV,QB];simp [isT]
   rw [<-Y] at C;have fin:∃(done d:List (Int×Value)) (L:List Int),d.length=c.length/\(done++d).Perm l/\L=(done.filter λp=>isT p.2).map (·.1)/\Own w.heap.size 3 t vl L/\ItB PP 3 t r bs d/\Stp w t:=⟨done++[(x,Value.bool false)],c,_,rfl,F,rfl,C,M.b,s2⟩;exact⟨c.length,by omega,fin⟩
theorem zJj(f:g.ws.length=g.n){s:ByteArray}(h:¬∃l∈g.ws,s∈l):plOf g s=[]:=by
 cases d:plOf g s with
 |nil=>rfl
 |cons x r =>
  have:x∈plOf g s:=by rw [d];exact Qs
  have e:=zCc.1 this;obtain⟨v,_,o,c⟩:=e;exfalso;have b:v<g.ws.length:=by omega
  rw [Qk,Qd b] at c;exact h ⟨_,Qa b,c⟩
theorem zDz{c:Nat}{C:List ByteArray}{ps:List RPo}{s:ByteArray}{w:World}(h:SlF w (.slice a n c) ps)(M:PosM w g C ps)(E:GrIs g)(Q:ps.length<=100000):
  Sp PP 384 #[.slice a n c,.string s] w λv w'=>Own w.heap.size 3 w' v (plOf g s)/\Stp w w':=by
 have F:=E.ok.n2;have d:=h.len;obtain rfl:=d;have H:=zCf g s;refine eN ?_;refine cN 9 [4,6] 9 ps.length (λk u=>(∀x∈C.take k,x≠s)/\Stp w u) ⟨by simp,stp⟩ ?_;rintro k G u R ⟨b,e⟩;refine ite (λhlt=>?_) (λI=>?_)
 ·have l:k<ps.length:=by omega
  have o:k<C.length:=by have:=M.len;omega
  have d:=M.at' k l o;obtain⟨p,r⟩:=d;refine rix (h.up (w':=u)) (x:=ps[k]) (by simp) λS T J=>rloadA J rfl (ral λK U n2 L=>rE L (ps[k]) λy z N _=>?_);have z:Bk y K (enc ps[k]) 170:=z;have V:Stp u y:=n2.st N;refine rX z rfl (rseq (λA=>?_) (λA=>?_))
  ·rw [p] at A;rw [A] at r;refine rX z rfl (rcall (zBh (r.up (w':=y)) (by omega)) ?_);rintro v W ⟨O,X⟩;exact⟨O.mono (lz w y),stp⟩
  ·refine rA ⟨rfl,l,λt f=>?_,stp⟩;rw [take_add o] at f;have d:=Qf.1 f;rcases d with f|f
   ·exact b t f
   ·rw [Qc.1 f,<-p];exact A
 ·have d:k=ps.length:=by omega
  obtain rfl:=d;rw [M.len,Qg] at b;rw [zJj E.nw λD=>b s ((M.all s).2 D) rfl];exact⟨Own.nil _ _ _,e⟩
theorem zHd{v:Value}{w:World}:Sp PP 356 #[v] w λr w'=>r=.func (.func 357) #[v] #[]/\w'=w:=by
 refine eN ?_;exact⟨rfl,rfl⟩
theorem zFw{r:TypeId}{c l bl:Nat}{t:List ByteArray}{ps:List RPo}{s:ByteArray}{bs:Nat}{x:List (Int×Value)}{f:Int->Prop}{w:World}(h:SlF w (.slice a ps.length c) ps)(M:PosM w g t ps)(o:GrIs g)(y:ps.length<=100000)
  (W:Bk w l [.func (.func 356) #[] #[]] r)(L:Bk w bl [.slice a ps.length c] 83)(S:SetB w bs x f):
  Sp PP 385 #[.map (some bs),.string s,.pointer (some ⟨l,0,none⟩),.pointer (some ⟨bl,0,none⟩)] w λv w'=>(∃b m,v=.map (some b)/\SetB w' b m (λn=>f n/\n∈plOf g s))/\Stp w w':=by
 have z:=zCf g s;have A:=o.ok.n2;refine eN ?_;refine dD (λ_=>False) [0,1,3,4,2,5,6,7,8] λw1 Q=>tX W rfl nf (tX L rfl nf ?_);refine rcall zHd ?_;rintro _ d ⟨rfl,rfl⟩;refine⟨Fr.refl _ _,?_⟩;refine rcall (zDz (s:=s) (h.up (w':=d)) (M.up (w':=d)) o y) ?_;rintro v w2 ⟨p,C⟩;refine⟨C.e,?_⟩;have D:=p.shape;obtain⟨oa,oc,rfl⟩:=D;refine rcall (zEX p.sl (by omega)) ?_;rintro _ E ⟨⟨R,T,rfl,F,G⟩,H⟩;refine⟨H.e,?_⟩;refine rcall (zHR (S.up (w':=E)) F) ?_;rintro _ U ⟨⟨I,J,rfl,K,N⟩,O⟩;refine⟨O.e,?_⟩;exact⟨⟨I,J,rfl,K⟩,stp⟩
theorem zGi{H:TypeId}{c z A bl:Nat}{I:List ByteArray}{ps:List RPo}{l:List ByteArray}{bs:Nat}{C:List (Int×Value)}{f:Int->Prop}{w:World}(h:SlF w (.slice a ps.length c) ps)(M:PosM w g I ps)(J:GrIs g)(K:ps.length<=100000)
  (W:Bk w A [.func (.func 356) #[] #[]] H)(L:Bk w bl [.slice a ps.length c] 83)(S:SetB w bs C f)(D:SlF w (.slice a2 n2 z) l)(N:l.length<=1000000):
  Sp PP 382 #[.map (some bs),.slice a2 n2 z,.func (.func 385) #[] #[.pointer (some ⟨A,0,none⟩),.pointer (some ⟨bl,0,none⟩)]] w λv w'=>(∃b m,v=.map (some b)/\SetB w' b m (λn=>f n/\∀s∈l,n∈plOf g s))/\Stp w w':=by
 have r:=D.len;obtain rfl:=r;refine eN ?_;refine cO 11 [8] 0 11 l.length (λk v u=>(∃b m,v=.map (some b)/\SetB u b m (λn=>f n/\∀s∈l.take k,n∈plOf g s))/\Stp w u) ⟨⟨bs,C,rfl,by simpa using S⟩,stp⟩ ?_;rintro k v G u X ⟨⟨b,m,rfl,t⟩,O⟩;refine ite (λhlt=>?_) (λQ=>?_)
 ·have d:k<l.length:=by omega
  refine rix (D.up (w':=u)) (x:=l[k]) (by simp) λY Z R=>rload1 (R.cell0 rfl) (rcall (zFw (s:=l[k]) (h.up (w':=u)) (M.up (w':=u)) J K (W.mv (w:=u)) (L.mv (w:=u)) t) ?_);rintro _ T ⟨⟨E,F,rfl,o⟩,e2⟩
  have U:SetB T E F (λn=>f n/\∀s∈l.take (k+1),n∈plOf g s):=⟨o.mp,o.bool,λn=>by
   rw [<-o.has,take_add d];simp only [Qf,Qc];constructor
   ·rintro⟨y,p⟩;exact⟨⟨y,λs e=>p s (.inl e)⟩,p _ (.inr rfl)⟩
   ·rintro⟨⟨y,p⟩,V⟩;refine⟨y,λs e=>?_⟩;rcases e with e|rfl
    ·exact p s e
    ·exact V,o.len⟩
  exact rA ⟨rfl,d,⟨E,F,rfl,U⟩,stp⟩
 ·have r:k=l.length:=by omega
  obtain rfl:=r;rw [Qg] at t;exact⟨⟨b,m,rfl,t⟩,O⟩
theorem zHO{q:List ByteArray}{L:List Int}(l:L.Pairwise (· < ·))(o:q≠[])(p:∀n,n∈L↔∀s∈q,n∈plOf g s):L=placesL g q:=by
 refine zNN l ?_ λn=>?_
 ·unfold placesL;rw [QY];exact(List.pairwise_lt_range.filter _).imp λh=>by omega
 ·rw [p];unfold placesL;simp only [Qq,QC,Q0,XL,VA];constructor
  ·intro h;have b:=List.exists_cons_of_ne_nil o;obtain⟨t,r,rfl⟩:=b;have b:=zCc.1 (h t Qs);obtain⟨v,rfl,c,_⟩:=b;refine⟨v,⟨c,λs d=>?_⟩,rfl⟩;have b:=zCc.1 (h s d);obtain⟨w,e,_,f⟩:=b;have b:v=w:=by omega
   obtain rfl:=b;exact f
  ·rintro⟨v,⟨c,f⟩,rfl⟩ s d;exact zCc.2 ⟨v,rfl,c,f s d⟩
theorem zIu{c z:Nat}{G:List ByteArray}{ps:List RPo}{q:List ByteArray}{w:World}(h:SlF w (.slice a n c) ps)(M:PosM w g G ps)(A:GrIs g)(D:ps.length<=100000)(C:SlF w (.slice a2 n2 z) q)(o:q≠[])(H:q.length<=1000000):
  Sp PP 283 #[.slice a n c,.slice a2 n2 z] w λv w'=>(∃b,v=.tuple #[b,.int .i64 0]/\Own w.heap.size 3 w' b (placesL g q))/\Stp w w':=by
 have d:=h.len;obtain rfl:=d;have d:=C.len;obtain rfl:=d;have I:=A.ok.n2;have f:0<q.length:=JI.2 o
 have J:Sp PP 355 #[.slice a ps.length c,.slice a2 q.length z,.func (.func 356) #[] #[]] w λv w'=>(∃b,v=.tuple #[b,.int .i64 0]/\Own w.heap.size 3 w' b (placesL g q))/\Stp w w':=by
  refine eN ?_;refine rbx λbl w1 n1 t=>rbx λbw w2 n2 K=>iF (by first|omega|decide|(dsimp only <;> omega)) ?_;have t:Bk w1 bl [.slice a ps.length c] 83:=t;have N:=zCf g q[0];refine dD (λ_=>False) [0,1,2,3,6,7,8,4,5,9,10] λy e3=>tX t rfl nf (tix (i:=0) (C.up (w':=y)) (x:=q[0]) (by simp [f]) λb4 o4 O _=>tload1 (O.cell0 rfl) nf (tsl (some 1) none (C.up (w':=y)) (by simp;omega) (by simp) λa5 c5 Q=>?_));refine rcall (zDz (s:=q[0]) (h.up (w':=y)) (M.up (w':=y)) A D) ?_;rintro v w4 ⟨E,R⟩;refine⟨R.e,?_⟩;have d:=E.shape;obtain⟨oa,oc,rfl⟩:=d;refine rcall (zEX E.sl (by omega)) ?_;rintro _ p ⟨⟨b5,m5,rfl,S,T⟩,U⟩;refine⟨U.e,?_⟩;refine rcall (zGi (h.up (w':=p)) (M.up (w':=p)) A D (K.mv (w:=p)) (t.mv (w:=p)) S (Q.up (w':=p)) (by simp;omega)) ?_;rintro _ V ⟨⟨b6,m6,rfl,W⟩,X⟩;refine⟨X.e,?_⟩;refine rcall (zGj W) ?_;rintro v w7 ⟨⟨L,Y,Z,F⟩,e7⟩
  have e8:L=placesL g q:=zHO Y o λn=>by
   rw [Z,zBB]
   have e9:q=q[0]::q.drop 1:=by
    cases q with
    |nil=>simp at f
    |cons x r=>rfl
   constructor
   ·rintro⟨h1,h2⟩ s l;rw [e9] at l;have d:=Ql.1 l;rcases d with rfl|l
    ·exact h1
    ·exact h2 s l
   ·intro h;exact⟨h _ (Qa f),λs l=>h s (List.mem_of_mem_drop l)⟩
  rw [e8] at F;exact⟨⟨v,rfl,F.mono (lz w V)⟩,stp⟩
 refine eN ?_;refine rcall J ?_;rintro _ w2 ⟨⟨b,rfl,O2⟩,e2⟩;exact⟨⟨b,rfl,O2⟩,stp⟩
structure LeaM (S:List StD) (dir:Int) (m:List (Int×Value)):Prop where
 val:∀p∈m,∃x∈S,x.key.dir=dir/\p.1=x.key.v/\p.2=.int .i64 x.d/\∀y∈S,y.key.dir=dir->y.key.v=x.key.v->x.d<=y.d
 all:∀x∈S,x.key.dir=dir->∃v,(x.key.v,v)∈m
theorem LeaM.skip{S:List StD}{dir:Int}{m:List (Int×Value)}{x:StD}(h:LeaM S dir m)(d:x.key.dir≠dir):LeaM (S++[x]) dir m:=by
 refine⟨λp e=>?_,λy b hd=>?_⟩
 ·have c:=h.val p e;obtain⟨z,f,l,o,r,t⟩:=c;refine⟨z,QN _ f,l,o,r,λy b hd v=>?_⟩;have c:=Qf.1 b;rcases c with b|b
  ·exact t y b hd v
  ·rw [Qc.1 b] at hd;exact absurd hd d
 ·have c:=Qf.1 b;rcases c with b|b
  ·exact h.all y b hd
  ·rw [Qc.1 b] at hd;exact absurd hd d
theorem LeaM.set{S:List StD}{dir:Int}{m:List (Int×Value)}{x:StD}(h:LeaM S dir m)(l:(m.map (·.1)).Nodup)(A:x.key.dir=dir)(o:∀y∈S,y.key.dir=dir->y.key.v=x.key.v->x.d<=y.d):LeaM (S++[x]) dir (setM x.key.v (.int .i64 x.d) m):=by
 refine⟨λp C=>?_,λy b hd=>?_⟩
 ·obtain⟨H,I⟩:=p;have c:=(zAg l).1 C;rcases c with ⟨r,t⟩|⟨r,t⟩
  ·subst r;subst t;refine⟨x,by simp,A,rfl,rfl,λy b hd f=>?_⟩;have c:=Qf.1 b;rcases c with b|b
   ·exact o y b hd f
   ·rw [Qc.1 b];exact Vr _
  ·have c:=h.val _ t;obtain⟨z,D,E,w,F,G⟩:=c;refine⟨z,QN _ D,E,w,F,λy b hd f=>?_⟩;have c:=Qf.1 b;rcases c with b|b
   ·exact G y b hd f
   ·rw [Qc.1 b] at f;exact absurd (w.trans f.symm) r
 ·have c:=Qf.1 b;rcases c with b|b
  ·have c:=h.all y b hd;obtain⟨v,f⟩:=c;by_cases e:y.key.v=x.key.v
   ·exact⟨_,(zAg l).2 (.inl ⟨e,rfl⟩)⟩
   ·exact⟨v,(zAg l).2 (.inr ⟨e,f⟩)⟩
  ·rw [Qc.1 b];exact⟨_,(zAg l).2 (.inl ⟨rfl,rfl⟩)⟩
theorem LeaM.keep{S:List StD}{dir:Int}{m:List (Int×Value)}{x z:StD}(h:LeaM S dir m)(o:z∈S)(c:z.key.dir=dir)(e:z.key.v=x.key.v)(t:¬x.d<z.d):LeaM (S++[x]) dir m:=by
 refine⟨λp w=>?_,λy b hd=>?_⟩
 ·have f:=h.val p w;obtain⟨u,A,C,D,E,r⟩:=f;refine⟨u,QN _ A,C,D,E,λy b hd l=>?_⟩;have f:=Qf.1 b;rcases f with b|b
  ·exact r y b hd l
  ·rw [Qc.1 b] at l ⊢;have:=r z o c (e.trans l);omega
 ·have f:=Qf.1 b;rcases f with b|b
  ·exact h.all y b hd
  ·rw [Qc.1 b,<-e];exact h.all z o c
theorem zCE{c:Nat}{S:List StD}{dir:Int}{w:World}(h:SlF w (.slice a n c) S)(hn:S.length<=100000):
  Sp PP 203 #[.slice a n c,.int .i64 dir] w λv w'=>(∃b m,v=.map (some b)/\MapB PP 3 w' b m/\LeaM S dir m/\m.length<=S.length/\w.heap.size<=b)/\Stp w w':=by
 have r:=h.len;obtain rfl:=r;refine eN ?_;refine rmkNB (kt:=3) (κ:=Int) rfl λF w1 n1 R=>?_;have T:=n1.lo (u:=w);refine cN 13 [7,8,9] 13 S.length (λk u=>∃m,MapB PP 3 u F m/\LeaM (S.take k) dir m/\m.length<=k/\Stp w u) ⟨[],R,⟨by simp,by simp⟩,by simp,stp⟩ ?_;rintro k g u hk ⟨m,M,C,U,V⟩;have t:=M.2;refine ite (λhlt=>?_) (λW=>?_)
 ·have f:k<S.length:=by omega
  have o:S.take (k+1)=S.take k++[S[k]]:=take_add f;refine rix (h.up (w':=u)) (x:=S[k]) (by simp) λb1 o1 X=>rloadA X rfl (ral λY Z n2 z2=>?_);have a0:=n2.b;have a1:=n2.s;refine rE z2 (S[k]) λG p f3 _=>?_;have p:Bk G Y (enc S[k]) 222:=p;have a4:=M.lt;have s3:Stp u G:=⟨Fr.st (lE u Z) f3 λi hi=>by omega⟩;have A:MapB PP 3 G F m:=M.up;refine rX p rfl ?_
  cases E:getM m S[k].key.v with
  |none =>
   have D:∀y∈S.take k,y.key.dir=dir->y.key.v=S[k].key.v->S[k].d<=y.d:=λy H hd e=>by
    have r:=C.all y H hd;obtain⟨v,hv⟩:=r;have:=zAK t hv;rw [e,E] at this;cases this
   refine rlookN A.l S[k].key.v rfl E ?_;refine rX p rfl (ite (λhd=>?_) (λhd=>?_))
   ·refine rX p rfl (rX p rfl ?_);refine rupdB A S[k].key.v rfl λu6 I J _=>?_;exact rA ⟨rfl,f,_,I,by rw [o];exact C.set t hd D,Qw (zDf _ _ _) (by omega),⟨Fr.st (Le.e (a:=w)) J λi hi=>by omega⟩⟩
   ·exact rA ⟨rfl,f,m,A,by rw [o];exact C.skip hd,by omega,stp⟩
  |some v =>
   have K:=zA1 E;have r:=C.val _ K;obtain⟨z,h1,h2,L,O,h5⟩:=r;simp only at L O;subst O;refine rlookS A.l S[k].key.v rfl E ?_;refine rX p rfl (ite (λhd=>?_) (λhd=>?_))
   ·refine rX p rfl (ite (λQ=>?_) (λQ=>?_))
    ·have D:∀y∈S.take k,y.key.dir=dir->y.key.v=S[k].key.v->S[k].d<=y.d:=λy H N e=>by
      have:=h5 y H N (e.trans L);omega
     refine rX p rfl (rX p rfl ?_);refine rupdB A S[k].key.v rfl λu6 I J _=>?_;exact rA ⟨rfl,f,_,I,by rw [o];exact C.set t hd D,Qw (zDf _ _ _) (by omega),⟨Fr.st (Le.e (a:=w)) J λi hi=>by omega⟩⟩
    ·exact rA ⟨rfl,f,m,A,by rw [o];exact C.keep h1 h2 L.symm Q,by omega,stp⟩
   ·exact rA ⟨rfl,f,m,A,by rw [o];exact C.skip hd,by omega,stp⟩
 ·have r:k=S.length:=by omega
  obtain rfl:=r;rw [Qg] at C;exact⟨⟨F,m,rfl,M,C,U,T⟩,V⟩
theorem zAP(f:Bool)(n:Int)(a:Option Addr)(m c:Nat):∀u∈[Value.bool f,.int .i64 n,.slice a m c],u.oneCell'=true:=by
 intro u b;simp at b;rcases b with rfl|rfl|rfl <;> rfl
def MeetI (mb done:List (Int×Value)) (f:Bool) (n:Int):Prop:=
 (f=false/\n=0/\∀p∈done,getM mb p.1=none) \/
 (f=true/\(∃p∈done,∃b d:Int,getM mb p.1=some (.int .i64 b)/\p.2=.int .i64 d/\n=d+b)/\∀p∈done,∀b d:Int,getM mb p.1=some (.int .i64 b)->p.2=.int .i64 d->n<=d+b)
theorem LeaM.get{S:List StD}{dir:Int}{m:List (Int×Value)}(h:LeaM S dir m){k:Int}{v:Value}(e:getM m k=some v):∃z∈S,z.key.dir=dir/\z.key.v=k/\v=.int .i64 z.d/\∀y∈S,y.key.dir=dir->y.key.v=k->z.d<=y.d:=by
 have f:=h.val _ (zA1 e);obtain⟨z,l,o,b,c,p⟩:=f;simp only at b c;exact⟨z,l,o,b.symm,c,λy r hd t=>p y r hd (t.trans b)⟩
def meetP (S:List StD):AnP:=match minL (sums S) with
 |some m=>⟨true,m,[]⟩
 |none=>zAn
theorem zPc{S:List StD}{Z K:List (Int×Value)}{f:Bool}{n:Int}(A:LeaM S 0 Z)(B:LeaM S 1 K)(o:(K.map (·.1)).Nodup)(h:MeetI K Z f n):(meetP S)=⟨f,n,[]⟩:=by
 rcases h with ⟨rfl,rfl,h1⟩|⟨rfl,⟨p,hp,b,d,hb,hd,rfl⟩,h2⟩
 ·have:sums S=[]:=by
   cases hs:sums S with
   |nil=>rfl
   |cons y r =>
    have L:y∈sums S:=by rw [hs];exact Qs
    have c:=zDa.1 L;obtain⟨x,M,z,N,e,l,O,_⟩:=c;have c:=A.all x M e;obtain⟨v,Q⟩:=c;have hn:=h1 _ Q;have c:=B.all z N l;obtain⟨v',R⟩:=c;have:=zAK o R;rw [O] at this;simp only at hn;rw [hn] at this;cases this
  unfold meetP;rw [this];rfl
 ·have hm:minL (sums S)=some (d+b):=by
   have c:=A.val p hp;obtain⟨x,M,e,T,w,a0⟩:=c;have c:=B.get hb;obtain⟨z,N,U,l,V,a1⟩:=c;rw [hd] at w;cases w;cases V;refine zFt.2 ⟨zDa.2 ⟨x,M,z,N,e,U,l.trans T,rfl⟩,λy L=>?_⟩;have c:=zDa.1 L;obtain⟨x',C,z',D,h0,E,Q,rfl⟩:=c;have c:=A.all x' C h0;obtain⟨v,F⟩:=c;have c:=A.val _ F;obtain⟨u,hu,a4,G,H,W⟩:=c;have c:=B.all z' D E;obtain⟨v',I⟩:=c;have J:=zAK o I;have c:=B.get J;obtain⟨t,ht,a5,a6,X,Y⟩:=c;simp only at G H;subst X;have:=h2 _ F t.d u.d (by simp only;rw [<-Q];exact J) H;have:=W x' C h0 G;have:=Y z' D E rfl;omega
  unfold meetP;rw [hm]
theorem MeetI.mem{r a b:List (Int×Value)}{f:Bool}{n:Int}(h:MeetI r a f n)(c:∀p,p∈b↔p∈a):MeetI r b f n:=by
 rcases h with ⟨d,e,l⟩|⟨d,⟨p,e,l⟩,t⟩
 ·exact .inl ⟨d,e,λp o=>l p ((c p).1 o)⟩
 ·exact .inr ⟨d,⟨p,(c p).2 e,l⟩,λp o=>t p ((c p).1 o)⟩
theorem MeetI.skip{l done:List (Int×Value)}{f:Bool}{n x:Int}{v:Value}(h:MeetI l done f n)(y:getM l x=none):MeetI l (done++[(x,v)]) f n:=by
 rcases h with ⟨o,r,t⟩|⟨o,⟨p,r,t⟩,z⟩
 ·refine .inl ⟨o,r,λp c=>?_⟩;have w:=Qf.1 c;rcases w with c|c
  ·exact t p c
  ·rw [Qc.1 c];exact y
 ·refine .inr ⟨o,⟨p,QN _ r,t⟩,λp c b d e hd=>?_⟩;have w:=Qf.1 c;rcases w with c|c
  ·exact z p c b d e hd
  ·rw [Qc.1 c] at e;simp only at e;rw [y] at e;cases e
theorem MeetI.more{f done:List (Int×Value)}{n x d b:Int}(h:MeetI f done true n)(r:getM f x=some (.int .i64 b))(l:n<=d+b):MeetI f (done++[(x,.int .i64 d)]) true n:=by
 rcases h with ⟨o,_⟩|⟨o,⟨p,t,v⟩,w⟩
 ·cases o
 ·refine .inr ⟨rfl,⟨p,QN _ t,v⟩,λp c y z e hd=>?_⟩;have A:=Qf.1 c;rcases A with c|c
  ·exact w p c y z e hd
  ·rw [Qc.1 c] at e hd;simp only at e hd;rw [r] at e;cases e;cases hd;exact l
theorem MeetI.best{l done:List (Int×Value)}{f:Bool}{n x d b:Int}(h:MeetI l done f n)(r:getM l x=some (.int .i64 b))(o:f=true->d+b<n):MeetI l (done++[(x,.int .i64 d)]) true (d+b):=by
 refine .inr ⟨rfl,⟨_,JJ _ (Qc.2 rfl),b,d,r,rfl,rfl⟩,λp e v w c hd=>?_⟩;have y:=Qf.1 e;rcases y with e|e
 ·rcases h with ⟨t,C,z⟩|⟨t,_,A⟩
  ·rw [z p e] at c;cases c
  ·have:=A p e v w c hd;have:=o t;omega
 ·rw [Qc.1 e] at c hd;simp only at c hd;rw [r] at c;cases c;cases hd;exact Vr _
theorem zKK{c:Nat}{S:List StD}{w:World}(h:SlF w (.slice a n c) S)(hn:S.length<=100000)(hd:∀x∈S,0<=x.d/\x.d<=1000):
  Sp PP 202 #[.slice a n c] w λv w'=>v=agg (⟨(meetP S).found,(meetP S).num,⟨none,0,0⟩⟩:AnsD)/\Stp w w':=by
 refine eN ?_;refine ral λbr w1 n1 Y=>ral λT w2 n2 Z=>?_;have a9:=n1.b;have b1:=n1.s;have b2:=n2.b;have b3:=n2.s;have Y:Bk w1 br [.bool false,.int .i64 0,.slice none 0 0] 65:=Y;have Z:Bk w2 T [.bool false,.int .i64 0,.slice none 0 0] 65:=Z;refine rcall (zCE (dir:=1) (h.up (w':=w2)) hn) ?_;rintro _ w3 ⟨⟨bb,R,rfl,MB,LB,b4,b5⟩,e3⟩;refine rcall (zCE (dir:=0) (h.up (w':=w3)) hn) ?_;rintro _ w4 ⟨⟨b0,ma,rfl,MA,LA,b6,b7⟩,e4⟩;have z3:=e3.e.size;have z4:=e4.e.size;have a0:=MB.2;refine rnx rfl (rrangeM MA λr w5 nr a1 _=>?_);have hr:=nr.b;have b8:=nr.s
 refine loop0G TBok 14 [5,6,7,8] (λi u=>∃(done rest:List (Int×Value)) (f:Bool) (F:Int),rest.length=i/\(done++rest).Perm ma/\MeetI R done f F/\Bk u T [.bool f,.int .i64 F,.slice none 0 0] 65/\Bk u br [.bool false,.int .i64 0,.slice none 0 0] 65/\MapB PP 3 u bb R/\ItB PP 3 u r b0 rest/\Stp w u) rfl
  ⟨_,[],ma,false,0,rfl,.refl _,.inl ⟨rfl,rfl,by simp⟩,Z.mv,Y.mv,MB.up,a1,stp⟩ ?_
 rintro i G u ⟨done,rest,f,F,hi,hp,U,KA,KR,Mb,It,su⟩;refine rnx rfl (rnextM It (λJ=>?_) λx v o u5 K V f5 b9=>?_)
 ·subst J;rw [QE] at hp;have e:=zPc LA LB a0 (U.mem λp=>hp.mem_iff.symm);have e2:Value.agg [Value.bool f,.int .i64 F,.slice none 0 0].toArray=agg (⟨(meetP S).found,(meetP S).num,⟨none,0,0⟩⟩:AnsD):=by rw [e];rfl
  refine rldG (ds:=[.bool f,.int .i64 F,.slice none 0 0]) (B:=KA) rfl rfl (rS KR [.bool f,.int .i64 F,.slice none 0 0] (zAP _ _ _ _ _) λD L E _=>?_);have L:Bk D br [.bool f,.int .i64 F,.slice none 0 0] 65:=L;have W:Stp w D:=⟨Fr.st su.e E λi hi=>by omega⟩;exact rresG (B:=L) rfl ⟨e2,W⟩
 ·have a4:(x,v)∈ma:=hp.mem_iff.1 (JJ _ (K.mem_iff.1 Qs));have⟨z,a5,c0,a6,X,c1⟩:=LA.val _ a4;simp only at a6 X;subst X;have c2:=hd z a5;have la:=Z.lt;have lr:=Y.lt;have c3:=lz w2 w4;have A:=KA.fr f5 (by omega);have H:=KR.fr f5 (by omega);have c4:=MB.lt;have C:MapB PP 3 u5 bb R:=Mb.fr f5 (by omega);have s5:Stp w u5:=⟨Fr.st su.e f5 λi hi=>by omega⟩
  have I:(done++[(x,Value.int .i64 z.d)]++o).Perm ma:=by
   rw [Qp];exact(Vp done K).trans hp
  have a7:=K.length_eq;rw [QA] at a7;refine rnx rfl (rentryM V ?_)
  cases M:getM R x with
  |none =>
   refine rlookN C.l x rfl M ?_;exact⟨o.length,by omega,_,o,f,F,rfl,I,U.skip M,A,H,C,V.b,s5⟩
  |some bv =>
   have q_:=LB.get M;obtain⟨t,a8,c5,c6,rfl,c7⟩:=q_;have c8:=hd t a8;refine rlookS C.l x rfl M ?_;refine rX A rfl ?_;have c9:T<u5.heap.size:=A.lt
   cases f with
   |false =>
    refine rarE (y:=z.d+t.d) rfl (by omega) (rbuild (cs:=[.bool true,.int .i64 (z.d+t.d),.slice none 0 0]) rfl (rS A [.bool true,.int .i64 (z.d+t.d),.slice none 0 0] (zAP _ _ _ _ _) λD N E _=>?_));have N:Bk D T [.bool true,.int .i64 (z.d+t.d),.slice none 0 0] 65:=N;have L:=H.fr E (by omega);have O:MapB PP 3 D bb R:=C.fr E (by omega);have Q:ItB PP 3 D r b0 o:=V.b.fr E (by omega) (by omega);have W:Stp w D:=⟨Fr.st s5.e E λi hi=>by omega⟩;exact⟨o.length,by omega,_,o,true,z.d+t.d,rfl,I,U.best M (λh=>nomatch h),N,L,O,Q,W⟩
   |true =>
    refine rarE (y:=z.d+t.d) rfl (by omega) (rX A rfl (ite (λhl=>?_) (λhl=>?_)))
    ·refine rarE (y:=z.d+t.d) rfl (by omega) (rbuild (cs:=[.bool true,.int .i64 (z.d+t.d),.slice none 0 0]) rfl (rS A [.bool true,.int .i64 (z.d+t.d),.slice none 0 0] (zAP _ _ _ _ _) λD N E _=>?_));have N:Bk D T [.bool true,.int .i64 (z.d+t.d),.slice none 0 0] 65:=N;have L:=H.fr E (by omega);have O:MapB PP 3 D bb R:=C.fr E (by omega);have Q:ItB PP 3 D r b0 o:=V.b.fr E (by omega) (by omega);have W:Stp w D:=⟨Fr.st s5.e E λi hi=>by omega⟩;exact⟨o.length,by omega,_,o,true,z.d+t.d,rfl,I,U.best M (λ_=>hl),N,L,O,Q,W⟩
    ·exact⟨o.length,by omega,_,o,true,F,rfl,I,U.more M (by omega),A,H,C,V.b,s5⟩
section
variable {P:Program} {kt:TypeId} {κ:Type} [DecidableEq κ] [M:MKey P kt κ] {D:Nat->Prop} {k:Value->Prop} {w:World}
theorem tlookN{t e:TypeId}{z:Value}{sz c:Nat}[p:MapT P t kt e][r:Elem P e z sz c]{b:Nat}{m:List (κ×Value)}{d:Value}(h:MapL P kt w b m)(hd:¬D b)(x:κ)(f:d=M.val x)(l:getM m x=none)(o:k (.tuple #[z,.bool false])):TakeS P (Instr.lookup t (.map (some b)) d true) D k w:=
 tlook2 h hd x f (by rw [l];exact o)
theorem tlookS{t e:TypeId}{z:Value}{sz c:Nat}[p:MapT P t kt e][r:Elem P e z sz c]{b:Nat}{m:List (κ×Value)}{d:Value}(h:MapL P kt w b m)(hd:¬D b)(x:κ)(f:d=M.val x){v:Value}(l:getM m x=some v)(o:k (.tuple #[v,.bool true])):TakeS P (Instr.lookup t (.map (some b)) d true) D k w:=
 tlook2 h hd x f (by rw [l];exact o)
end
def AnsO (B:Nat) (w:World) (v:Value) (p:AnP):Prop:=∃x:AnsD,v=agg x/\x.found=p.found/\x.num=p.num/\Own B 206 w (.slice x.s.a x.s.n x.s.c) p.hits
theorem zN4(pl:List Int)(S:List StD)(x:StD):hitsL pl (S++[x])=hitsL pl S++if x.key.dir=0/\x.key.v∈pl then [⟨x.key.v,x.d⟩] else []:=by
 unfold hitsL;rw [QV,QB];congr 1;by_cases h:x.key.dir=0/\x.key.v∈pl
 ·simp [h]
 ·rw [if_neg h];have b:x.key.dir=0->x.key.v∉pl:=λc e=>h ⟨c,e⟩;simpa using b
theorem zFp(pl:List Int)(S:List StD):(hitsL pl S).length<=S.length:=by
 unfold hitsL;rw [Qr];exact Qv _ _
theorem zLO(g:GrD)(b:List ByteArray):(placesL g b).length<=g.n:=by
 unfold placesL;rw [Qr];exact Qw (Qv _ _) (by simp)
theorem zKJ{xq:RQ}{ws:List ByteArray}{ps:List RPo}{c X:Nat}{S:List StD}{w:World}(V:QyV w xq q)(Y:GrIs g)(h:SlF w (.slice a n c) ps)(M:PosM w g ws ps)(H:ps.length<=100000)
  (Z:SlF w (.slice a2 n2 X) S)(a0:S.length<=1000)(I:q.words≠[])(a1:q.words.length<=1000):
  Sp PP 204 #[agg xq,.slice a n c,.slice a2 n2 X] w λv w'=>AnsO w.heap.size w' v ⟨!(firstK q.most (hitsL (placesL g q.words) S)).isEmpty,0,firstK q.most (hitsL (placesL g q.words) S)⟩/\Stp w w':=by
 have f:=h.len;obtain rfl:=f;have f:=Z.len;obtain rfl:=f;have a4:=Y.ok.n2;have J:=zLO g q.words;obtain⟨k1,k2,k3,kw,k4,k5⟩:=V;refine eN ?_;refine rbx λbq w1 n1 Bq=>ral λbr w2 n2 K=>?_;have K:Bk w2 br [.bool false,.int .i64 0,.slice none 0 0] 65:=K;have a5:=n1.b;have a6:=n1.s;have a7:=n2.b;have a8:=n2.s;refine rX Bq rfl (rcall (zIu (h.up (w':=w2)) (M.up (w':=w2)) Y H (kw.up (w':=w2)) I (by omega)) ?_);rintro _ L ⟨⟨pv,rfl,OP⟩,e3⟩;refine iF (· rfl) ?_;have f:=OP.shape;obtain⟨pa,pc,rfl⟩:=f;refine cO 24 [11] 9 24 S.length (λk v u=>Own L.heap.size 206 u v (hitsL (placesL g q.words) (S.take k))/\Stp L u) ⟨Own.nil _ _ _,stp⟩ ?_;rintro k v G u hk ⟨O,su⟩;refine ite (λhlt=>?_) (λa9=>?_)
 ·have l:k<S.length:=by omega
  have e:=zN4 (placesL g q.words) (S.take k) S[k];rw [<-take_add l] at e;have A:=zFp (placesL g q.words) (S.take k);rw [Qm] at A;refine rix (Z.up (w':=u)) (x:=S[k]) (by simp) λb4 o4 A4=>rloadA A4 rfl (ral λb5 u5 n5 z5=>?_);have b0:=n5.b;have b1:=n5.s;refine rE z5 (S[k]) λE p f6 _=>?_;have p:Bk E b5 (enc S[k]) 222:=p;have s6:Stp u E:=⟨Fr.st (lE u u5) f6 λi hi=>by omega⟩;refine rX p rfl (ite (λhd=>?_) (λhd=>?_))
  ·refine rX p rfl (rcall (zDl (x:=S[k].key.v) (OP.sl.up (w':=E)) (by omega)) ?_);rintro _ u7 ⟨⟨rfl,F⟩|⟨rfl,F⟩,e7⟩
   ·rw [if_pos ⟨hd,F⟩] at e;refine rX p rfl (rX p rfl ?_);refine rbuild (cs:=enc (⟨S[k].key.v,S[k].d⟩:HitD)) rfl (bS (⟨S[k].key.v,S[k].d⟩:HitD) λb8 u8 n8 _ S8=>rapp1 (u:=L) ⟨rfl,rfl⟩ (O.up (w':=u8)) S8 (by omega) λv9 u9 O9 f9 s9=>?_);rw [<-e] at O9;exact rA ⟨rfl,l,O9,stp⟩
   ·rw [if_neg (λh=>F h.2),QE] at e;have C:=O.up (w':=u7);rw [<-e] at C;exact rA ⟨rfl,l,C,stp⟩
  ·rw [if_neg (λh=>hd h.1),QE] at e;have C:=O.up (w':=E);rw [<-e] at C;exact rA ⟨rfl,l,C,stp⟩
 ·have f:k=S.length:=by omega
  obtain rfl:=f;rw [Qg] at O;have A:=zFp (placesL g q.words) S;have f:=O.shape;obtain⟨ha,F,rfl⟩:=f;refine rX Bq rfl (rcall (zJC (k:=xq.most) (O.sl) (by omega)) ?_);rintro v N ⟨Q,e2⟩;have R:(if xq.most<1 then [] else firstQ xq.most (hitsL (placesL g q.words) S))=firstK q.most (hitsL (placesL g q.words) S):=by rw [k5];rfl
  rw [R] at Q;have T:=K.mv (w:=N);have zu:=lz w u;have f:=Q.shape;obtain⟨t,y,rfl⟩:=f
  have fin:∀(o:World) (b:Bool),b = !(firstK q.most (hitsL (placesL g q.words) S)).isEmpty->Fr (λi=>i=br) N o->AnsO w.heap.size o (.agg [Value.bool b,.int .i64 0,.slice t (firstK q.most (hitsL (placesL g q.words) S)).length y].toArray) ⟨!(firstK q.most (hitsL (placesL g q.words) S)).isEmpty,0,firstK q.most (hitsL (placesL g q.words) S)⟩/\Stp w o:=λo b D z =>
   ⟨⟨⟨b,0,⟨t,(firstK q.most (hitsL (placesL g q.words) S)).length,y⟩⟩,rfl,D,rfl,(Q.mono zu).frc z T⟩,⟨Fr.st (lE w N) z λi hi=>by omega⟩⟩
  refine ite (λhgt=>?_) (λhgt=>?_)
  ·have D:true = !(firstK q.most (hitsL (placesL g q.words) S)).isEmpty:=by
    cases U:firstK q.most (hitsL (placesL g q.words) S) with
    |nil=>rw [U] at hgt;simp at hgt
    |cons x r=>rfl
   refine rbuild (cs:=[.bool true,.int .i64 0,.slice t (firstK q.most (hitsL (placesL g q.words) S)).length y]) rfl (rS T [.bool true,.int .i64 0,.slice t (firstK q.most (hitsL (placesL g q.words) S)).length y] (zAP _ _ _ _ _) λo W z _=>?_);exact rresG (B:=W) rfl (fin o true D z)
  ·have D:false = !(firstK q.most (hitsL (placesL g q.words) S)).isEmpty:=by
    cases U:firstK q.most (hitsL (placesL g q.words) S) with
    |nil=>rfl
    |cons x r=>rw [U] at hgt;exact absurd hgt (by simp <;> omega)
   refine rbuild (cs:=[.bool false,.int .i64 0,.slice t (firstK q.most (hitsL (placesL g q.words) S)).length y]) rfl (rS T [.bool false,.int .i64 0,.slice t (firstK q.most (hitsL (placesL g q.words) S)).length y] (zAP _ _ _ _ _) λo W z _=>?_);exact rresG (B:=W) rfl (fin o false D z)
theorem zHe{x:StD}{b:Nat}{d:Int}{w:World}(K:Bk w b [.int .i64 d] 3):Sp PP 201 #[agg x,.pointer (some ⟨b,0,none⟩)] w λv w'=>Tells (x.key.dir=d) v/\Stp w w':=by
 refine eN ?_;refine rbx λe w1 n1 c=>rX c rfl (rX K rfl ?_);exact ite (λh=>⟨.t h,stp⟩) (λh=>⟨.f h,stp⟩)
theorem zDX{M:List StD}{o:Nat}{d:Int}{c:Nat}{w:World}(K:Bk w o [.slice a n c] 110)(h:SlF w (.slice a n c) M)(r:M.length<=1000000):Sp PP 200 #[.int .i64 d,.pointer (some ⟨o,0,none⟩)] w λv w'=>v=.bool (hasDir M d)/\Stp w w':=by
 refine eN ?_;refine rbx λt w1 n1 z=>rX K rfl (rcall (zB0 (g:=201) (first:=[]) (cap:=[.pointer (some ⟨t,0,none⟩)]) (p:=λx=>x.key.dir=d) (h.up (w':=w1)) r λx u D e=>zHe (z.fr e nf)) ?_);rintro _ w2 ⟨⟨rfl,b⟩|⟨rfl,b⟩,E⟩
 ·have:hasDir M d=true:=by
   obtain⟨y,f,l⟩:=b;exact Vi.2 ⟨y,f,by simpa using l⟩
  rw [this];exact⟨rfl,stp⟩
 ·have:hasDir M d=false:=by
   rw [Bool.eq_false_iff];intro l;have A:=Vi.1 l;obtain⟨y,f,C⟩:=A;exact b ⟨y,f,by simpa using C⟩
  rw [this];exact⟨rfl,stp⟩
theorem zFx{xq:RQ}{ws:List ByteArray}{ps:List RPo}{c c2 c3:Nat}{S M:List StD}{w:World}(V:QyV w xq q)(hq:QyOk q g.n)(T:GrIs g)(h:SlF w (.slice a n c) ps)(Mp:PosM w g ws ps)(a0:ps.length<=100000)
  (Y:SlF w (.slice a2 n2 c2) S)(a1:S.length<=1000)(a4:∀x∈S,0<=x.d/\x.d<=1000)(h3:SlF w (.slice a3 n3 c3) M)(b2:M.length<=1000):
  Sp PP 112 #[agg xq,.slice a n c,.slice a2 n2 c2,.slice a3 n3 c3] w λv w'=>(∃t,v=.tuple #[t,.bool (doneL g q S M).2]/\AnsO w.heap.size w' t (doneL g q S M).1)/\Stp w w':=by
 have C:=h3.len;obtain rfl:=C;have C:=Y.len;obtain rfl:=C;have C:=h.len;obtain rfl:=C;have a5:=hq.kind;obtain⟨k1,k2,k3,kw,k4,k5⟩:=V;refine eN ?_;refine rbx λbq w1 n1 Bq=>rbx λbm w2 n2 Z=>ral λH D n3 L=>?_;have L:Bk D H [.bool false,.int .i64 0,.slice none 0 0] 65:=L;have b3:=n1.b;have b4:=n1.s;have b6:=n2.b;have b7:=n2.s;have b8:=n3.b;have b9:=n3.s;refine rX Bq rfl (ite (λh1=>?_) (λh1=>?_))
 ·have N:doneL g q S M=distL S M:=by unfold doneL;rw [if_pos (by omega)]
  have MS:=zKK (Y.up (w':=D)) (by omega) a4
  have e2:distL S M=((meetP S),(meetP S).found || (!hasDir M 0 || !hasDir M 1)):=by
   unfold distL meetP;cases minL (sums S) <;> rfl
  have A:(meetP S).hits=[]:=by unfold meetP;cases minL (sums S) <;> rfl
  generalize meetP S=P at MS e2 A;obtain⟨pf,E,ph⟩:=P;simp only at A;subst A;have MS:Sp PP 202 #[.slice a2 S.length c2] D λv w'=>v=.agg #[.bool pf,.int .i64 E,.slice none 0 0]/\Stp D w':=MS;refine rcall MS ?_;rintro _ K ⟨rfl,e4⟩;refine ral λba w5 n5 Z5=>?_;have c0:=n5.b;have c1:=n5.s;refine rS Z5 [.bool pf,.int .i64 E,.slice none 0 0] (zAP _ _ _ _ _) λF A6 f6 _=>?_;have A6:Bk F ba [.bool pf,.int .i64 E,.slice none 0 0] 65:=A6;have s6:Stp K F:=⟨Fr.st (lE K w5) f6 λi hi=>by omega⟩;clear Z5 f6;have I:=L.mv (w:=F);have lr:=L.lt;have c4:=lz D K;have U:ba≠H:=by omega
  have fin:∀(u u':World) (b:Bool),Stp F u->Bk u' H [.bool pf,.int .i64 E,.slice none 0 0] 65->Fr (λi=>i=H) u u'->b=(pf || (!hasDir M 0 || !hasDir M 1))->(∃t,Value.tuple #[.agg [Value.bool pf,.int .i64 E,.slice none 0 0].toArray,.bool b]=.tuple #[t,.bool (doneL g q S M).2]/\AnsO w.heap.size u' t (doneL g q S M).1)/\Stp w u':=λu u' b s _ f hb=>by
   rw [N,e2,hb];exact⟨⟨_,rfl,⟨pf,E,⟨none,0,0⟩⟩,rfl,rfl,rfl,Own.nil _ _ _⟩,⟨Fr.st (lE w u) f λi hi=>by omega⟩⟩
  refine dD (λi=>i=H) (upF 15 0) λw7 e7=>tldG (ds:=[.bool pf,.int .i64 E,.slice none 0 0]) (B:=A6) rfl rfl U (tX A6 rfl U ?_)
  cases pf with
  |true =>
   refine rS I [.bool _,.int .i64 E,.slice none 0 0] (zAP _ _ _ _ _) λy p o _=>⟨o,?_⟩;refine rresG (B:=p) rfl ?_;exact fin _ _ true stp p o rfl
  |false =>
   have D0:=zDX (d:=0) (Z.mv (w:=w7)) (h3.up (w':=w7)) (by omega)
   cases G:hasDir M 0 with
   |false =>
    rw [G] at D0;refine rcall D0 ?_;rintro _ w8 ⟨rfl,e8⟩;refine⟨Fr.fr e8.e,?_⟩;refine rS I [.bool _,.int .i64 E,.slice none 0 0] (zAP _ _ _ _ _) λy p o _=>⟨o,?_⟩;refine rresG (B:=p) rfl ?_;exact fin _ _ true stp p o (by rw [G];rfl)
   |true =>
    rw [G] at D0;refine rcall D0 ?_;rintro _ w8 ⟨rfl,e8⟩;refine⟨Fr.fr e8.e,?_⟩;have D1:=zDX (d:=1) (Z.mv (w:=w8)) (h3.up (w':=w8)) (by omega)
    cases J:hasDir M 1 with
    |false =>
     rw [J] at D1;refine rcall D1 ?_;rintro _ w9 ⟨rfl,e9⟩;refine⟨Fr.fr e9.e,?_⟩;refine rS I [.bool _,.int .i64 E,.slice none 0 0] (zAP _ _ _ _ _) λy p o _=>⟨o,?_⟩;refine rresG (B:=p) rfl ?_;exact fin _ _ true stp p o (by rw [G,J];rfl)
    |true =>
     rw [J] at D1;refine rcall D1 ?_;rintro _ w9 ⟨rfl,e9⟩;refine⟨Fr.fr e9.e,?_⟩;refine rS I [.bool _,.int .i64 E,.slice none 0 0] (zAP _ _ _ _ _) λy p o _=>⟨o,?_⟩;refine rresG (B:=p) rfl ?_;exact fin _ _ false stp p o (by rw [G,J];rfl)
 refine ite (λa6=>?_) (λa6=>?_)
 ·have N:doneL g q S M=reachL q.to S M:=by unfold doneL;rw [if_neg (by omega),if_pos (by omega)]
  refine dD (λ_=>False) [0,2,3,1,4,5,6,7,8,9] λK e4=>tX Bq rfl nf (rcall (zCE (dir:=0) (Y.up (w':=K)) (by omega)) ?_);rintro _ w5 ⟨⟨b5,m5,rfl,M5,L5,_,_⟩,e5⟩;refine⟨e5.e,?_⟩;have R5:=L.mv (w:=w5)
  cases T:getM m5 xq.to with
  |none =>
   have O:reachL q.to S M=(zAn,M.isEmpty):=by
    unfold reachL;rw [if_neg];intro W;have C:=Vi.1 W;obtain⟨x,hx,h4⟩:=C;simp only [decide_eq_true_eq] at h4;have C:=L5.all x hx h4.1;obtain⟨v,hv⟩:=C;have:=zAK M5.2 hv;rw [h4.2,<-k3,T] at this;cases this
   refine tlookN M5.l nf xq.to rfl T ?_;refine dD (λi=>i=H) (upF 10 0) λF e6=>tbuild (cs:=[.bool false,.int .i64 0,.slice none 0 0]) rfl ?_;have I:=R5.mv (w:=F);have a7:bm≠H:=by omega
   refine tX Z rfl a7 ?_
   have fin:∀(u:World) (b:Bool),Fr (λi=>i=H) F u->b=M.isEmpty->(∃t,Value.tuple #[.agg [Value.bool false,.int .i64 0,.slice none 0 0].toArray,.bool b]=.tuple #[t,.bool (doneL g q S M).2]/\AnsO w.heap.size u t (doneL g q S M).1)/\Stp w u:=λu b f hb=>by
    rw [N,O,hb];exact⟨⟨_,rfl,⟨false,0,⟨none,0,0⟩⟩,rfl,rfl,rfl,Own.nil _ _ _⟩,⟨Fr.st (lE w F) f λi hi=>by omega⟩⟩
   refine ite (λh0=>?_) (λh0=>?_)
   ·have Q:true=M.isEmpty:=by
     cases M with
     |nil=>rfl
     |cons x r=>exact absurd h0 (by simp;omega)
    refine rS I [.bool false,.int .i64 0,.slice none 0 0] (zAP _ _ _ _ _) λy p o _=>⟨o,?_⟩;exact rresG (B:=p) rfl (fin y true o Q)
   ·have Q:false=M.isEmpty:=by
     cases M with
     |nil=>exact absurd rfl h0
     |cons x r=>rfl
    refine rS I [.bool false,.int .i64 0,.slice none 0 0] (zAP _ _ _ _ _) λy p o _=>⟨o,?_⟩;exact rresG (B:=p) rfl (fin y false o Q)
  |some v =>
   have O:reachL q.to S M=(⟨true,0,[]⟩,true):=by
    unfold reachL;rw [if_pos];have C:=L5.get T;obtain⟨z,hz,a8,a9,_⟩:=C;exact Vi.2 ⟨z,hz,by simp only [decide_eq_true_eq];exact⟨a8,by rw [a9,k3]⟩⟩
   refine tlookS M5.l nf xq.to rfl T ?_;refine dD (λi=>i=H) (upF 10 0) λF e6=>tbuild (cs:=[.bool true,.int .i64 0,.slice none 0 0]) rfl ?_;have I:=R5.mv (w:=F);refine rS I [.bool true,.int .i64 0,.slice none 0 0] (zAP _ _ _ _ _) λy p o _=>⟨o,?_⟩;refine rresG (B:=p) rfl ?_
   have fin:(∃t,Value.tuple #[.agg [Value.bool true,.int .i64 0,.slice none 0 0].toArray,.bool true]=.tuple #[t,.bool (doneL g q S M).2]/\AnsO w.heap.size y t (doneL g q S M).1)/\Stp w y:=by
    rw [N,O];exact⟨⟨_,rfl,⟨true,0,⟨none,0,0⟩⟩,rfl,rfl,rfl,Own.nil _ _ _⟩,⟨Fr.st (lE w F) o λi hi=>by omega⟩⟩
   exact fin
 refine ite (λX=>?_) (λX=>absurd a5 (by omega));have N:doneL g q S M=nearL (placesL g q.words) q.most S M:=by unfold doneL;rw [if_neg (by omega),if_neg (by omega),if_pos (by omega)]
 have R:=hq.near (by omega);refine rX Z rfl (ite (λh0=>?_) (λh0=>?_))
 ·have Q:M.isEmpty=false:=by
   cases M with
   |nil=>exact absurd h0 (by simp)
   |cons x r=>rfl
  have O:nearL (placesL g q.words) q.most S M=(zAn,false):=by unfold nearL;rw [Q];rfl
  refine rbuild (cs:=[.bool false,.int .i64 0,.slice none 0 0]) rfl (rS L [.bool false,.int .i64 0,.slice none 0 0] (zAP _ _ _ _ _) λy p o _=>rresG (B:=p) rfl ?_)
  have fin:(∃t,Value.tuple #[.agg [Value.bool false,.int .i64 0,.slice none 0 0].toArray,.bool false]=.tuple #[t,.bool (doneL g q S M).2]/\AnsO w.heap.size y t (doneL g q S M).1)/\Stp w y:=by
   rw [N,O];exact⟨⟨_,rfl,⟨false,0,⟨none,0,0⟩⟩,rfl,rfl,rfl,Own.nil _ _ _⟩,⟨Fr.st (lE w D) o λi hi=>by omega⟩⟩
  exact fin
 ·have Q:M.isEmpty=true:=by
   cases M with
   |nil=>rfl
   |cons x r=>exact absurd (show (0:Int)<((x::r).length:Int) by simp <;> omega) (by omega)
  have O:nearL (placesL g q.words) q.most S M=(⟨!(firstK q.most (hitsL (placesL g q.words) S)).isEmpty,0,firstK q.most (hitsL (placesL g q.words) S)⟩,true):=by unfold nearL;rw [Q];rfl
  refine rG Bq xq (rcall (zKJ (q:=q) ⟨k1,k2,k3,kw.up (w':=D),k4,k5⟩ T (h.up (w':=D)) (Mp.up (w':=D)) a0 (Y.up (w':=D)) a1 (by intro h;have:=R.1;rw [h] at this;simp at this) (by omega)) ?_);rintro v K ⟨⟨x,rfl,b0,b1,OX⟩,e4⟩;have R4:=L.mv (w:=K);refine rE R4 x λy p o _=>?_;have p:Bk y H (enc x) 65:=p;refine rresG (B:=p) rfl ?_
  have fin:(∃t,Value.tuple #[.agg (enc x).toArray,.bool true]=.tuple #[t,.bool (doneL g q S M).2]/\AnsO w.heap.size y t (doneL g q S M).1)/\Stp w y:=by
   rw [N,O];exact⟨⟨_,rfl,x,rfl,b0,b1,(OX.mono (lz w D)).frc o R4⟩,⟨Fr.st (lE w K) o λi hi=>by omega⟩⟩
  exact fin
open Go
abbrev Hs:=List (Option (RqD×Nat))
theorem zOB{f f':Nat->Nat}(h:∀j,j≠k->f' j=f j):∀n,k<n->((List.range n).map f').sum+f k=((List.range n).map f).sum+f' k:=by
 intro n
 induction n with
 |zero=>intro d;omega
 |succ n e =>
  intro d;rw [Jm,QB,QB,XV,XV];simp only [QS,JP,List.sum_cons,List.sum_nil];have b:=QH k n;rcases b with c|c
  ·have:=e c;have:=h n (by omega);omega
  ·have b:k=n:=by omega
   obtain rfl:=b
   have:((List.range k).map f')=((List.range k).map f):=by
    apply Ja;intro j l;exact h j (by have:=Q0.1 l;omega)
   rw [this];omega
def cntW (g:GrD) (W:Nat) (w:Nat) (o:Option (RqD×Nat)) (k:Nat):Nat:=((sts1 g o k).filter λx=>decide (homW W x.key.v=w)).length
theorem zEv(g:GrD)(W:Nat)(h:Hs)(w:Nat):liveW g W h w=((List.range h.length).map λk=>cntW g W w (h.getD k none) k).sum:=by
 unfold liveW allS cntW;rw [List.filter_flatMap,List.length_flatMap]
theorem zAA{α:Type}{l:List α}{x z:α}(b:k<l.length):(l.set k x).getD j z=if j=k then x else l.getD j z:=by
 rw [Qk,Qk,Vw];by_cases e:k=j
 ·subst e;simp [b]
 ·simp [e,Jq e]
theorem zG6{W w:Nat}{h:Hs}(b:k<h.length)(o:Option (RqD×Nat)):liveW g W (h.set k o) w+cntW g W w (h.getD k none) k=liveW g W h w+cntW g W w o k:=by
 rw [zEv,zEv,Jc];have:=zOB (f:=λk=>cntW g W w (h.getD k none) k) (f':=λj=>cntW g W w ((h.set k o).getD j none) j) (k:=k) (λj c=>by simp only [zAA b,if_neg c]) h.length b;have e:(h.set k o).getD k none=o:=by rw [zAA b,if_pos rfl]
 rw [e] at this;exact this
theorem zOU(g:GrD)(W w k:Nat):cntW g W w none k=0:=rfl
theorem zKb(g:GrD)(W w k:Nat)(x:RqD):cntW g W w (some (x,0)) k=0:=rfl
theorem zCe{c:CfD}{h:Hs}:overS g c h=true↔∃w,w<c.workers/\c.pool<liveW g c.workers h w:=by
 simp [overS]
theorem zDW{c:CfD}{h b:Hs}(e:∀w,liveW g c.workers b w<=liveW g c.workers h w)(d:overS g c h=false):overS g c b=false:=by
 rw [<-Vy,zCe] at d ⊢;rintro⟨w,f,l⟩;exact d ⟨w,f,by have:=e w;omega⟩
theorem zFq{W:Nat}{h:Hs}(b:k<h.length)(w:Nat):liveW g W (h.set k none) w<=liveW g W h w:=by
 have:=zG6 (g:=g) (W:=W) (w:=w) b none;rw [zOU] at this;omega
def idsW (l:List RqD):List Int:=l.map (·.id)
def idsH (h:Hs):List Int:=h.filterMap λo=>o.map (·.1.id)
structure RqOk (g:GrD) (x:RqD):Prop where
 q:QyIs x.q g.n
 id:0<=x.id/\x.id<=2147483647
structure SvOk (g:GrD) (c:CfD) (s:SvD):Prop where
 len:s.held.length=c.slots
 wl:s.wait.length<=c.queue
 wait:∀x∈s.wait,RqOk g x
 held:∀x i,some (x,i)∈s.held->RqOk g x/\i<c.budget
 ids:(idsH s.held++idsW s.wait).Nodup
 pool:overS g c s.held=false
structure CfOk (c:CfD):Prop where
 workers:1<=c.workers/\c.workers<=16
 slots:1<=c.slots/\c.slots<=64
 queue:1<=c.queue/\c.queue<=1000
 pool:1<=c.pool/\c.pool<=400
 budget:1<=c.budget/\c.budget<=1000
theorem zPd{h:Hs}{id:Int}:id∈idsH h↔∃x i,some (x,i)∈h/\x.id=id:=by
 unfold idsH;rw [List.mem_filterMap];constructor
 ·rintro⟨o,b,e⟩
  cases o with
  |none=>cases e
  |some p=>exact⟨p.1,p.2,b,QL e⟩
 ·rintro⟨x,i,c,rfl⟩;exact⟨_,c,rfl⟩
theorem zCR{h:Hs}(b:k<h.length)(o:Option (RqD×Nat)):idsH (h.set k o)=idsH (h.take k)++(o.map (·.1.id)).toList++idsH (h.drop (k+1)):=by
 rw [Vn,if_pos b];unfold idsH;rw [List.filterMap_append,List.filterMap_cons,Qp];cases o <;> simp
theorem zG1{h:Hs}(b:k<h.length):idsH h=idsH (h.take k)++((h.getD k none).map (·.1.id)).toList++idsH (h.drop (k+1)):=by
 have:=zCR b (h.getD k none)
 have e:h.set k (h.getD k none)=h:=by
  rw [Qk,Qd b];simp
 rw [e] at this;exact this
theorem zJa{h:Hs}(b:k<h.length){x:RqD}(e:h.getD k none=some (x,i)):idsH (h.set k (some (x,j)))=idsH h:=by
 rw [zCR b,zG1 b,e];rfl
theorem zDs{h:Hs}(b:k<h.length){x:RqD}(e:h.getD k none=some (x,i)):(x.id::idsH (h.set k none)).Perm (idsH h):=by
 rw [zCR b,zG1 b,e];simp only [Option.map_none,Option.toList_none,QE,JD,Yb,Qp,List.singleton_append];exact List.perm_middle.symm
theorem zKo{h:Hs}(b:k<h.length)(e:h.getD k none=none)(x:RqD)(i:Nat):(x.id::idsH h).Perm (idsH (h.set k (some (x,i)))):=by
 rw [zCR b,zG1 b,e];simp only [Option.map_none,Option.toList_none,QE,JD,Yb,Qp,List.singleton_append];exact List.perm_middle.symm
theorem zAo{h:Hs}{p:RqD×Nat}(e:h.getD k none=some p):k<h.length/\some p∈h:=by
 have c:=QH k h.length;rcases c with b|b
 ·refine⟨b,?_⟩;rw [Qk,Qd b] at e;exact e ▸ Qa b
 ·rw [Qk,Jg b] at e;cases e
theorem zCd{h:Hs}{o:Option (RqD×Nat)}{x:RqD}(c:some (x,i)∈h.set k o):some (x,i)∈h\/o=some (x,i):=by
 have d:=List.mem_or_eq_of_mem_set c;rcases d with b|b
 ·exact .inl b
 ·exact .inr b.symm
theorem zCu{h:Hs}(e:freeS h=some k):k<h.length/\h.getD k none=none:=by
 unfold freeS at e;rw [JB] at e;obtain⟨b,c,_⟩:=e;refine⟨b,?_⟩;rw [Qk,Qd b];simpa using c
theorem zNZ{h:Hs}(e:freeS h=none):∀o∈h,o≠none:=by
 unfold freeS at e;rw [Ve] at e;intro o b c;have:=e o b;rw [c] at this;cases this
theorem zGT{c:CfD}(o:CfOk c):∀(l:List RqD) (h:Hs),SvOk g c ⟨l,h⟩->SvOk g c ⟨(admitS l h).1,(admitS l h).2⟩/\(idsH (admitS l h).2++idsW (admitS l h).1).Perm (idsH h++idsW l)
 |[],h,s=>⟨s,.refl _⟩
 |x::r,h,s=>by
  unfold admitS
  cases e:freeS h with
  |none=>exact⟨s,.refl _⟩
  |some k =>
   have b:=zCu e;obtain⟨p,v⟩:=b
   have t:(idsH (h.set k (some (x,0)))++idsW r).Perm (idsH h++idsW (x::r)):=by
    refine((zKo p v x 0).symm.append_right _).trans ?_;show (x.id::idsH h++idsW r).Perm (idsH h++(x.id::idsW r));exact List.perm_middle.symm
   have s':SvOk g c ⟨r,h.set k (some (x,0))⟩:=by
    refine⟨by simpa using s.len,by have:=s.wl;simp at this ⊢;omega,λy d=>s.wait y (QF _ d),λy i d=>?_,t.nodup_iff.2 s.ids,?_⟩
    ·have b:=zCd d;rcases b with f|f
     ·exact s.held y i f
     ·cases f;exact⟨s.wait x Qs,by have:=o.budget.1;omega⟩
    ·refine zDW (λw=>?_) s.pool;have:=zG6 (g:=g) (W:=c.workers) (w:=w) p (some (x,0));rw [zKb] at this;dsimp only;omega
   have:=zGT o r _ s';exact⟨this.1,this.2.trans t⟩
theorem zGP{c : CfD}{h : Hs} : (h.getD k none = none /\ stepS g c h k = (h, none)) \/ ∃ x i, h.getD k none = some (x, i) /\
    ((overS g c (h.set k (some (x, i + 1))) = true /\ stepS g c h k = (h.set k none, some (repB x.id 250 zAn))) \/
     (overS g c (h.set k (some (x, i + 1))) = false /\ (doneL g x.q (sts g x.q k (i + 1)) (mls g x.q k (i + 1))).2 = true /\ stepS g c h k = (h.set k none, some (repB x.id 0 (doneL g x.q (sts g x.q k (i + 1)) (mls g x.q k (i + 1))).1))) \/
     (overS g c (h.set k (some (x, i + 1))) = false /\ (doneL g x.q (sts g x.q k (i + 1)) (mls g x.q k (i + 1))).2 = false /\ c.budget <= i + 1 /\ stepS g c h k = (h.set k none, some (repB x.id 251 zAn))) \/
     (overS g c (h.set k (some (x, i + 1))) = false /\ (doneL g x.q (sts g x.q k (i + 1)) (mls g x.q k (i + 1))).2 = false /\ i + 1 < c.budget /\ stepS g c h k = (h.set k (some (x, i + 1)), none))) := by
  unfold stepS
  cases e : h.getD k none with
  | none => exact .inl ⟨rfl, rfl⟩
  | some p =>
    obtain ⟨x, i⟩ := p;refine .inr ⟨x, i, rfl, ?_⟩;dsimp only;by_cases f : overS g c (h.set k (some (x, i + 1))) = true
    · exact .inl ⟨f, by rw [if_pos f]⟩
    · right
      rw [if_neg f];have b : overS g c (h.set k (some (x, i + 1))) = false := by simpa using f
      by_cases l : (doneL g x.q (sts g x.q k (i + 1)) (mls g x.q k (i + 1))).2 = true
      · exact .inl ⟨b, l, by rw [if_pos l]⟩
      · right
        rw [if_neg l];have d : (doneL g x.q (sts g x.q k (i + 1)) (mls g x.q k (i + 1))).2 = false := by simpa using l
        by_cases o : c.budget <= i + 1
        · exact .inl ⟨b, d, o, by rw [if_pos o]⟩
        · exact .inr ⟨b, d, by omega, by rw [if_neg o]⟩
noncomputable def repIds (g:GrD) (c:CfD) (h:Hs) (k:Nat):List Int:=match h.getD k none,(stepS g c h k).2 with
 |some (x,_),some _=>[x.id]
 |_,_=>[]
theorem zF7{c:CfD}{h:Hs}{l:List RqD}(k:Nat)(s:SvOk g c ⟨l,h⟩):SvOk g c ⟨l,(stepS g c h k).1⟩/\(repIds g c h k++idsH (stepS g c h k).1).Perm (idsH h):=by
 have d:=zGP (g:=g) (c:=c) (h:=h) (k:=k);rcases d with ⟨e,o⟩|⟨x,i,e,o⟩
 ·rw [o];refine⟨s,?_⟩;unfold repIds;rw [e];exact .refl _
 ·have d:=zAo e;obtain⟨f,v⟩:=d;have w:=s.held x i v
  have drop:∀t,stepS g c h k=(h.set k none,some t)->SvOk g c ⟨l,(stepS g c h k).1⟩/\(repIds g c h k++idsH (stepS g c h k).1).Perm (idsH h):=λt z=>by
   unfold repIds;rw [z,e];refine⟨⟨by simpa using s.len,s.wl,s.wait,λy j p=>?_,?_,zDW (zFq f) s.pool⟩,zDs f e⟩
   ·have d:=zCd p;rcases d with b|b
    ·exact s.held y j b
    ·cases b
   ·have:=((zDs f e).append_right (idsW l)).nodup_iff.2 s.ids;rw [VO,JC] at this;exact this.2
  rcases o with ⟨_,b⟩|⟨_,_,b⟩|⟨_,_,_,b⟩|⟨A,_,C,b⟩
  ·exact drop _ b
  ·exact drop _ b
  ·exact drop _ b
  ·unfold repIds;rw [b,e];refine⟨⟨by simpa using s.len,s.wl,s.wait,λy j p=>?_,by rw [zJa f e];exact s.ids,A⟩,by rw [zJa f e];exact .refl _⟩;have d:=zCd p;rcases d with r|r
   ·exact s.held y j r
   ·cases r;exact⟨w.1,C⟩
noncomputable def tickIds (g:GrD) (c:CfD):List Nat->Hs->List Int
 |[],_=>[]
 |k::r,h=>repIds g c h k++tickIds g c r (stepS g c h k).1
theorem zLm{c:CfD}{l:List RqD}:∀(b:List Nat) (h:Hs),SvOk g c ⟨l,h⟩->SvOk g c ⟨l,(stepsS g c b h).1⟩/\(tickIds g c b h++idsH (stepsS g c b h).1).Perm (idsH h)
 |[],h,s=>⟨s,.refl _⟩
 |k::r,h,s=>by
  have d:=zF7 k s;obtain⟨e,f⟩:=d;have d:=zLm r _ e;obtain⟨o,p⟩:=d;refine⟨o,?_⟩;show (repIds g c h k++tickIds g c r (stepS g c h k).1++idsH (stepsS g c r (stepS g c h k).1).1).Perm _;rw [Qp];exact(p.append_left _).trans f
theorem zQB{c:CfD}(d:CfOk c){s:SvD}(h:SvOk g c s):SvOk g c (tickS g c s).1 /\
  (tickIds g c (usedS (admitS s.wait s.held).2) (admitS s.wait s.held).2++(idsH (tickS g c s).1.held++idsW (tickS g c s).1.wait)).Perm (idsH s.held++idsW s.wait):=by
 have b:=zGT d s.wait s.held h;obtain⟨e,f⟩:=b;have b:=zLm (usedS (admitS s.wait s.held).2) _ e;obtain⟨l,o⟩:=b;refine⟨l,?_⟩;rw [<-Qp];exact(o.append_right _).trans f
theorem zM8{l:List RqD}{id:Int}(e:waitAt l id=some k):∃b:k<l.length,l[k].id=id:=by
 unfold waitAt at e;rw [JB] at e;obtain⟨b,c,_⟩:=e;exact⟨b,by simpa using c⟩
theorem zJB{l:List RqD}{id:Int}:waitAt l id=none↔id∉idsW l:=by
 unfold waitAt idsW;rw [Ve];simp only [decide_eq_false_iff_not,Qq,not_exists,not_and]
theorem zIm{h:Hs}{id:Int}(e:heldAt h id=some k):∃x i,h.getD k none=some (x,i)/\x.id=id:=by
 unfold heldAt at e;rw [JB] at e;obtain⟨c,b,_⟩:=e;split at b
 ·rename_i x i d;exact⟨x,i,by rw [Qk,Qd c,d];rfl,by simpa using b⟩
 ·cases b
theorem zI6{h:Hs}{id:Int}:heldAt h id=none↔id∉idsH h:=by
 unfold heldAt;rw [Ve,zPd];constructor
 ·rintro b ⟨x,i,d,e⟩;have:=b _ d;simp [e] at this
 ·intro b o c
  match o,c with
  |none,_=>rfl
  |some (x,i),c=>exact decide_eq_false λe=>b ⟨x,i,c,e⟩
theorem zMv{c:CfD}{s:SvD}(h:SvOk g c s)(id:Int):SvOk g c (backS s id).1 /\
  ((∃e:(backS s id).2=253,(id::(idsH (backS s id).1.held++idsW (backS s id).1.wait)).Perm (idsH s.held++idsW s.wait))\/((backS s id).2=141/\(backS s id).1=s/\id∉idsH s.held++idsW s.wait)):=by
 unfold backS
 cases e:waitAt s.wait id with
 |some k =>
  have d:=zM8 e;obtain⟨p,f⟩:=d
  have r:(id::idsW (s.wait.eraseIdx k)).Perm (idsW s.wait):=by
   unfold idsW
   have l:(s.wait[k]::s.wait.eraseIdx k).Perm s.wait:=by
    rw [Jp];have e:s.wait.take k++s.wait[k]::s.wait.drop (k+1)=s.wait:=by rw [<-JS p,JW]
    have:=XH (a:=s.wait[k]) (l₁:=s.wait.take k) (l₂:=s.wait.drop (k+1));exact this.symm.trans (by rw [e])
   have:=l.map (·.id);rw [QS,f] at this;exact this
  have b:(id::(idsH s.held++idsW (s.wait.eraseIdx k))).Perm (idsH s.held++idsW s.wait):=List.perm_middle.symm.trans (r.append_left _);refine⟨⟨h.len,?_,λx z=>h.wait x (List.mem_of_mem_eraseIdx z),h.held,?_,h.pool⟩,.inl ⟨rfl,b⟩⟩
  ·have:=h.wl;have:=List.length_eraseIdx_le s.wait k;dsimp only;omega
  ·have:=b.nodup_iff.2 h.ids;exact(JC.1 this).2
 |none =>
  dsimp only
  cases v:heldAt s.held id with
  |some k =>
   have d:=zIm v;obtain⟨x,i,p,f⟩:=d;have d:=zAo p;obtain⟨o,w⟩:=d;have r:=zDs o p;rw [f] at r;have b:(id::(idsH (s.held.set k none)++idsW s.wait)).Perm (idsH s.held++idsW s.wait):=r.append_right _;refine⟨⟨by simpa using h.len,h.wl,h.wait,λy j A=>?_,(JC.1 (b.nodup_iff.2 h.ids)).2,zDW (zFq o) h.pool⟩,.inl ⟨rfl,b⟩⟩;have d:=zCd A;rcases d with t|t
   ·exact h.held y j t
   ·cases t
  |none =>
   refine⟨h,.inr ⟨rfl,rfl,λw=>?_⟩⟩;have d:=Qf.1 w;rcases d with l|l
   ·exact zI6.1 v l
   ·exact zJB.1 e l
theorem ask_ok{c:CfD}{s:SvD}(h:SvOk g c s){x:RqD}(d:0<=x.id/\x.id<=2147483647):
  ((askS g c s x (QyIs x.q g.n)).2=0/\(askS g c s x (QyIs x.q g.n)).1=⟨s.wait++[x],s.held⟩/\SvOk g c ⟨s.wait++[x],s.held⟩/\x.id∉idsH s.held++idsW s.wait) \/
  ((askS g c s x (QyIs x.q g.n)).2=180\/(askS g c s x (QyIs x.q g.n)).2=150\/(askS g c s x (QyIs x.q g.n)).2=252)/\(askS g c s x (QyIs x.q g.n)).1=s:=by
 unfold askS;by_cases h0:QyIs x.q g.n
 case neg=>rw [if_neg h0];exact .inr ⟨.inl rfl,rfl⟩
 rw [if_pos h0]
 cases e:heldAt s.held x.id with
 |some k=>exact .inr ⟨.inr (.inl rfl),rfl⟩
 |none =>
  rw [if_neg (by simp)]
  cases p:waitAt s.wait x.id with
  |some k=>exact .inr ⟨.inr (.inl rfl),rfl⟩
  |none =>
   rw [if_neg (by simp)];by_cases l:c.queue<=s.wait.length
   ·rw [if_pos l];exact .inr ⟨.inr (.inr rfl),rfl⟩
   ·rw [if_neg l]
    have o:x.id∉idsH s.held++idsW s.wait:=λr=>by
     have f:=Qf.1 r;rcases f with b|b
     ·exact zI6.1 e b
     ·exact zJB.1 p b
    refine .inl ⟨rfl,rfl,⟨h.len,by simp;omega,λy t=>?_,h.held,?_,h.pool⟩,o⟩
    ·have f:=Qf.1 t;rcases f with b|b
     ·exact h.wait y b
     ·rw [Qc] at b;subst b;exact⟨h0,d⟩
    ·show (idsH s.held++(s.wait++[x]).map (·.id)).Nodup;rw [QB,<-Qp];have:(idsH s.held++idsW s.wait++[x.id]).Perm (x.id::(idsH s.held++idsW s.wait)):=VE ..;exact this.nodup_iff.2 (JC.2 ⟨o,h.ids⟩)
theorem zP3{c:CfD}{s:SvD}(h:SvOk g c s)(f:List UInt8):SvOk g c (comeS g c s f).1:=by
 unfold comeS;split
 ·split <;> exact h
 ·rename_i x e;have l:=zCh e;split
  ·exact(zMv h x.id).1
  ·have o:=ask_ok (x:=x) h l.2.1;rcases o with ⟨b,d,p,_⟩|⟨b,d⟩
   ·rw [if_pos b,d];exact p
   ·rw [if_neg (by omega)];exact h
def newS (c:CfD):SvD:=⟨[],List.replicate c.slots none⟩
theorem zN5(n:Nat):idsH (List.replicate n none)=[]:=by
 unfold idsH;rw [List.filterMap_eq_nil_iff];intro o b;rw [(VW.1 b).2];rfl
theorem zN8(g:GrD)(W n w:Nat):liveW g W (List.replicate n none) w=0:=by
 rw [zEv]
 have:((List.range (List.replicate n (none:Option (RqD×Nat))).length).map λk=>cntW g W w ((List.replicate n none).getD k none) k)=(List.range (List.replicate n (none:Option (RqD×Nat))).length).map λ_=>0:=by
  apply Ja;intro k _
  have:(List.replicate n (none:Option (RqD×Nat))).getD k none=none:=by
   rw [Qk,Vk];split <;> rfl
  rw [this];rfl
 rw [this];clear this;generalize (List.replicate n (none:Option (RqD×Nat))).length=m
 induction m with
 |zero=>rfl
 |succ m b=>rw [Jm,QB,XV,b];rfl
theorem new_ok(g:GrD)(c:CfD):SvOk g c (newS c):=by
 refine⟨by simp [newS],by simp [newS],by simp [newS],λx i h=>?_,by simp [newS,zN5,idsW],?_⟩
 ·have:=(VW.1 h).2;cases this
 ·rw [<-Vy,zCe];rintro⟨w,_,h⟩;have:liveW g c.workers (newS c).held w=0:=zN8 g c.workers c.slots w;omega
theorem zA9{n m:Int}{w:World}:Sp PP 41 #[.int .i64 n,.int .i64 m] w λv w'=>Tells (1<=n/\n<=m) v/\w'=w:=by
 refine eN ?_;refine ite (λb=>?_) (λb=>⟨.f λh=>b h.1,rfl⟩);exact ite (λc=>⟨.t ⟨b,c⟩,rfl⟩) (λc=>⟨.f λh=>c h.2,rfl⟩)
theorem zIC{id b:Int}{a:AnP}(h:RepOk (repOf id b a) a.hits):repB id b a=encR (repOf id b a) a.hits:=if_pos h
theorem zIB{id b:Int}{a:AnP}(h:¬RepOk (repOf id b a) a.hits):repB id b a=[]:=if_neg h
theorem zB5{id e:Int}{w:World}:Sp PP 62 #[.int .i64 id,.int .i64 e] w λv w'=>v=txt (repB id e zAn)/\Stp w w':=by
 refine eN ?_;refine rbuild (cs:=enc (repOf id e zAn)) rfl (rcall (zCH (x:=repOf id e zAn) (l:=[]) (SlF.nil' _ _ _) (by simp)) ?_);rintro _ w1 ⟨⟨b,rfl⟩|⟨c,rfl⟩,d⟩
 ·exact⟨congrArg txt (zIC (a:=zAn) b).symm,stp⟩
 ·exact⟨congrArg txt (zIB (a:=zAn) c).symm,stp⟩
end Go.W
