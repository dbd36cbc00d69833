/-
  Proved here: a part of the walks and plain laws of this claim (merged by a program of mine).
  Conditions: those that each fact names.
-/
import Derived.Shelf.Lays
import Derived.Shelf.Strings.BuilderX
import Derived.KernelRfl
import Derived.Test.YtneehpnmjhjocaaGreatProg
import Derived.Shelf.SlLaysNS
import Derived.Test.YtneehpnmjhjocaaGreatH3
set_option maxHeartbeats 2000000
set_option linter.unusedVariables false
set_option linter.unusedSimpArgs false
namespace Go.W
open Go Go.Proofs
open Enc (enc)
set_option maxRecDepth 10000
variable {B i j k m n n2 n3:Nat} {P:Program} {a a2 a3:Option Addr} {g:GrD} {ps:List Int} {q:QyD} {s:List UInt8} {u u' w' w1 w2:World}
theorem zKN{x:StD}{w:World}:Sp PP F.qbl #[agg x] w λv w'=>Tells (mayX x) v/\Stp w w':=by
 refine eN ?_;refine rbx λb w1 n1 d=>rG d x.key (rX d rfl (rbuild (cs:=enc x) rfl (rbs1 x rfl rfl (by decide) λh w2 n2 _ e=>rcall (zCw e (by simp)) ?_)));rintro v l ⟨f,o⟩;have c:Tells (mayX x) v:=by simpa using f
 exact⟨c,stp⟩
def cfY (a b:KeyD):Int:=orI [cmpI a.slot b.slot,cmpI a.dir b.dir,cmpI a.v b.v]
theorem zCF{x y:KeyD}{w:World}:Sp PP F.dj #[agg x,agg y] w λv w'=>v=.int .i64 (cfY x y)/\Gw w w':=by
 refine eN ?_;refine rbx λl w1 n1 b=>rbx λo w2 n2 c=>drawRE TBok mixed (λ_=>False) (.one 0 (.one 1 (.one 2 (.one 3 (.one 5 (.one 6 (.one 7 (.one 8 (.one 10 (.one 11 (.one 12 (.one 13 (.one 4 (.one 9 (.one 14 (.one 15 (.one 16 (.one 17 .nil)))))))))))))))))) (by kernel_rfl) λp r f=>?_;refine tX b rfl nf (tX c rfl nf ?_);refine tX b rfl nf (tX c rfl nf ?_);refine tX b rfl nf (tX c rfl nf ?_);refine rcall zAc ?_;rintro v t ⟨rfl,rfl⟩;refine⟨Fr.refl _ _,?_⟩;refine rcall zAc ?_;rintro v z ⟨rfl,rfl⟩;refine⟨Fr.refl _ _,?_⟩;refine rcall zAc ?_;rintro v A ⟨rfl,rfl⟩;refine⟨Fr.refl _ _,?_⟩;refine rbsN [cmpI x.slot y.slot,cmpI x.dir y.dir,cmpI x.v y.v] rfl (vs:=[.int .i64 (cmpI x.slot y.slot),.int .i64 (cmpI x.dir y.dir),.int .i64 (cmpI x.v y.v)]) rfl rfl (by decide) λC D d h=>⟨d.e,?_⟩;refine rcall (zBO h (by simp)) ?_;rintro v E ⟨rfl,rfl⟩;refine⟨Fr.refl _ _,?_⟩;exact⟨rfl,n1.gw.trans (n2.gw.trans (f.trans d.gw))⟩
theorem zNx{x y:StD}{w:World}:Sp PP F.ce #[agg x,agg y] w λv w'=>v=.int .i64 (cfM x y)/\Gw w w':=by
 refine eN ?_;refine rbx λe w1 n1 b=>rbx λf w2 n2 c=>rG b x.key (rG c y.key (rcall (zCF (x:=x.key) (y:=y.key)) ?_));rintro _ h ⟨rfl,d⟩;exact⟨rfl,n1.gw.trans (n2.gw.trans d)⟩
theorem zIl{c:Nat}{S:List StD}{m:Int}{w:World}(h:SlF w (.slice a n c) S)(hn:S.length<=100000)(J:SRis S)(K:∀x∈S,mayX x/\x.key.v<m):
  Sp PP F.cr #[.slice a n c,.int .i64 m] w λv w'=>v=.bool true/\Stp w w':=by
 have f:=h.len;obtain rfl:=f;refine eN ?_;refine cnt TBok 9 [4,5,6] 9 S.length (λk u=>Stp w u) rfl rfl stp ?_;rintro k g u hk L;refine ite (λhlt=>?_) (λM=>?_)
 ·have d:k<S.length:=by omega
  refine rix (h.up (w':=u)) (x:=S[k]) (by simp) λb4 o4 N=>rloadA N rfl (ral λO Q C z5=>?_);have R:=C.b;have T:=C.s;refine rE z5 (S[k]) λD l U=>?_;have l:Bk D O (enc S[k]) E.qf:=l;have s6:Stp u D:=⟨Fr.st (lE u Q) U λi hi=>by omega⟩;have f:=K _ (Qa d);obtain⟨p,V⟩:=f;refine dQ 26 λu7 e7=>tG l (S[k]) nf (rcall zKN ?_);rintro _ r ⟨⟨rfl,_⟩|⟨rfl,W⟩,X⟩
  case' inr=>exact absurd p W
  refine⟨X.e,?_⟩;refine tX l rfl nf (ite (λG=>absurd G (by omega)) (λG=>?_));refine ite (λt=>?_) (λt=>?_)
  ·have f:∃j,k=j+1:=⟨k - 1,by omega⟩;obtain⟨j,rfl⟩:=f;have z:j<S.length:=by omega
   refine rarE (y:=(j:Int)) (by omega) (by omega) (tix (i:=j) (h.up (w':=r)) (x:=S[j]) (by simp) λY Z A9 _=>?_);have A:At r Y Z (enc S[j].key):=A9.sub 0 3;refine tloadA A rfl nf (tG l (S[j+1].key) nf (rcall (zCF (x:=S[j].key) (y:=S[j+1].key)) ?_));rintro _ u9 ⟨rfl,g9⟩;have H:=g9.ext;refine⟨H,?_⟩;have s9:Stp r u9:=⟨H⟩;have I:cfY S[j].key S[j+1].key<0:=(zFU S[j] S[j+1]).2 (QX.1 J j (j+1) z d (by omega));refine ite (λo=>absurd o (by omega)) (λo=>?_);exact rA ⟨rfl,d,stp⟩
  ·refine rA ⟨rfl,d,stp⟩
 ·exact⟨rfl,L⟩
structure QyV (w:World) (x:RQ) (q:QyD):Prop where
 kind:x.kind=q.kind
 frm:x.frm=q.frm
 to:x.to=q.to
 ws:SlF w x.words.v q.words
 rad:x.rad=q.rad
 most:x.most=q.most
theorem QyV.up{w:World}[Le w w']{x:RQ}(h:QyV w x q):QyV w' x q:=⟨h.kind,h.frm,h.to,h.ws.up,h.rad,h.most⟩
theorem zDk{l:List Nat}(h:k<l.length):(intsN l)[k]? = some (l[k]:Int):=by simp [intsN,h]
theorem zDl(l:List Nat):(intsN l).length=l.length:=by simp [intsN]
theorem zCP(b:GrIs g)(dir:Int)(v:Nat):(nbL g dir v).length<=2000:=by
 have:=b.ne;unfold nbL;split
 ·rw [Qr];exact Qw (Qv _ _) this
 ·rw [Qr];exact Qw (Qv _ _) this
def sendL (x:StD) (l:List Nat):List StD:=l.map λv:Nat=>⟨⟨x.key.slot,x.key.dir,v⟩,x.d+1⟩
theorem zDu(x:StD){l:List Nat}(h:k<l.length):sendL x (l.take (k+1))=sendL x (l.take k)++[⟨⟨x.key.slot,x.key.dir,l[k]⟩,x.d+1⟩]:=by
 unfold sendL;rw [take_add h,QB];rfl
theorem zKo{xq:RQ}{I:RRow}{r:List EdN}{x:StD}{w:World}(hg:GrIs g)(R:RwF w I g r)(C:xq.kind=q.kind/\xq.rad=q.rad)(hx:mayX x)(hd:x.key.dir=0\/x.key.dir=1)(hv:x.key.v<g.n):
  Sp PP F.qbm #[agg xq,agg I,agg x] w λv w'=>(∃v',v=.tuple #[v',.int .i64 0]/\Own w.heap.size E.qc w' v' (nextL g q x))/\Stp w w':=by
 obtain⟨⟨a1,a4,a5,a6,a7⟩,a8,a9⟩:=hx;have t:∃b:Nat,x.key.v=(b:Int):=⟨x.key.v.toNat,by omega⟩;obtain⟨b,z⟩:=t;have a0:b<g.n:=by omega
 refine eN ?_;refine rbx λbq w1 n1 B1=>rbx λbr w2 n2 B2=>rbx λbx w3 n3 o=>rX o rfl ?_;have b0:=zCP hg x.key.dir b
 have D:∀(u:World),Stp w u->Sp PP (if x.key.dir=1 then F.dn else F.px) #[agg I,.int .i64 (b:Int)] u λrv w'=>(∃v',rv=.tuple #[v',.bool true]/\Own u.heap.size E.qb w' v' (intsN (nbL g x.key.dir b)))/\Stp u w':=λu L=>by
  rcases hd with h|h
  ·rw [h,if_neg (by decide)];exact zLU hg (R.up (w':=u)) a0
  ·rw [h,if_pos rfl];exact zNr hg (R.up (w':=u)) a0
 have b1:¬(x.key.dir≠0/\x.key.dir≠1):=by omega
 refine ite (λh1=>?_) (λh1=>?_)
 ·refine rG B2 I (rld (B:=o) (v:=.int .i64 (b:Int)) (by rw [<-z];rfl) ?_);have H:=D w3 stp;rw [if_pos h1] at H;refine rcall H ?_;rintro _ w4 ⟨⟨l9,rfl,O4⟩,e4⟩;refine rG B2 I (rcall (zBG hg (R.up (w':=w4))) ?_);rintro _ f ⟨rfl,e5⟩;have A:=O4.up (w':=f);refine rX o rfl (ite (λZ=>?_) (λZ=>absurd Z (by omega)));refine rX o rfl (iF (· h1) (rX o rfl (iF (by omega) (rX o rfl (iF (by omega) (rX B1 rfl (ite (λJ=>?_) (λJ=>?_))))))))
  ·refine rX o rfl (rX B1 rfl ?_);refine ite (λK=>?_) (λK=>?_)
   ·have p:nextL g q x=[]:=by unfold nextL;rw [if_pos ⟨by rw [<-C.1];exact J,by rw [<-C.2];exact K⟩]
    have ON:Own w.heap.size E.qc f (.slice none 0 0) (nextL g q x):=by rw [p];exact Own.nil _ _ _
    exact⟨⟨_,rfl,ON⟩,stp⟩
   ·have y:¬(q.kind=3/\q.rad<=x.d):=λh=>K (by rw [C.2];exact h.2)
    have p:nextL g q x=sendL x (nbL g x.key.dir b):=by
     unfold nextL sendL;rw [if_neg y,z];rfl
    have il:=zDl (nbL g x.key.dir b);have t:=A.shape;obtain⟨la,lc,rfl⟩:=t;have M:=A.sl;refine cnt1 TBok 69 [13] 11 69 (nbL g x.key.dir b).length (λk v u=>Own f.heap.size E.qc u v (sendL x ((nbL g x.key.dir b).take k))/\Stp f u) rfl rfl ⟨Own.nil _ _ _,stp⟩ ?_;rintro k N G u Q ⟨O,su⟩;refine ite (λhlt=>?_) (λS=>?_)
    ·have c:k<(nbL g x.key.dir b).length:=by omega
     refine rix (M.up (w':=u)) (i:=k) (x:=((nbL g x.key.dir b)[k]:Int)) (zDk c) λb6 o6 T=>rload1 (T.cell0 rfl) (rX o rfl (rX o rfl ?_));refine rbuild (cs:=enc (⟨x.key.slot,x.key.dir,(nbL g x.key.dir b)[k]⟩:KeyD)) rfl (rX o rfl (rA (rbuild (cs:=enc (⟨⟨x.key.slot,x.key.dir,(nbL g x.key.dir b)[k]⟩,x.d+1⟩:StD)) rfl (rbs1 (⟨⟨x.key.slot,x.key.dir,(nbL g x.key.dir b)[k]⟩,x.d+1⟩:StD) rfl rfl (by decide) λb7 U n7 _ V=>rapp1 (u:=f) ⟨rfl,rfl⟩ (O.up (w':=U)) V (by unfold sendL;simp;omega) λW X Y f8 s8=>?_))));have e:Own f.heap.size E.qc X W (sendL x ((nbL g x.key.dir b).take (k+1))):=by rw [zDu x c];exact Y
     exact rA ⟨rfl,c,e,stp⟩
    ·have t:k=(nbL g x.key.dir b).length:=by omega
     obtain rfl:=t;have e:Own w.heap.size E.qc u N (nextL g q x):=by rw [p,<-Qg (l:=nbL g x.key.dir b)];exact O.mono (lz w f)
     exact⟨⟨_,rfl,e⟩,stp⟩
  ·have y:¬(q.kind=3/\q.rad<=x.d):=λh=>J (by rw [C.1];exact h.1)
   have p:nextL g q x=sendL x (nbL g x.key.dir b):=by
    unfold nextL sendL;rw [if_neg y,z];rfl
   have il:=zDl (nbL g x.key.dir b);have t:=A.shape;obtain⟨la,lc,rfl⟩:=t;have M:=A.sl;refine cnt1 TBok 69 [13] 11 69 (nbL g x.key.dir b).length (λk v u=>Own f.heap.size E.qc u v (sendL x ((nbL g x.key.dir b).take k))/\Stp f u) rfl rfl ⟨Own.nil _ _ _,stp⟩ ?_;rintro k N G u Q ⟨O,su⟩;refine ite (λhlt=>?_) (λS=>?_)
   ·have c:k<(nbL g x.key.dir b).length:=by omega
    refine rix (M.up (w':=u)) (i:=k) (x:=((nbL g x.key.dir b)[k]:Int)) (zDk c) λb6 o6 T=>rload1 (T.cell0 rfl) (rX o rfl (rX o rfl ?_));refine rbuild (cs:=enc (⟨x.key.slot,x.key.dir,(nbL g x.key.dir b)[k]⟩:KeyD)) rfl (rX o rfl (rA (rbuild (cs:=enc (⟨⟨x.key.slot,x.key.dir,(nbL g x.key.dir b)[k]⟩,x.d+1⟩:StD)) rfl (rbs1 (⟨⟨x.key.slot,x.key.dir,(nbL g x.key.dir b)[k]⟩,x.d+1⟩:StD) rfl rfl (by decide) λb7 U n7 _ V=>rapp1 (u:=f) ⟨rfl,rfl⟩ (O.up (w':=U)) V (by unfold sendL;simp;omega) λW X Y f8 s8=>?_))));have e:Own f.heap.size E.qc X W (sendL x ((nbL g x.key.dir b).take (k+1))):=by rw [zDu x c];exact Y
    exact rA ⟨rfl,c,e,stp⟩
   ·have t:k=(nbL g x.key.dir b).length:=by omega
    obtain rfl:=t;have e:Own w.heap.size E.qc u N (nextL g q x):=by rw [p,<-Qg (l:=nbL g x.key.dir b)];exact O.mono (lz w f)
    exact⟨⟨_,rfl,e⟩,stp⟩
 ·refine rG B2 I (rld (B:=o) (v:=.int .i64 (b:Int)) (by rw [<-z];rfl) ?_);have H:=D w3 stp;rw [if_neg h1] at H;refine rcall H ?_;rintro _ w4 ⟨⟨l9,rfl,O4⟩,e4⟩;refine rG B2 I (rcall (zBG hg (R.up (w':=w4))) ?_);rintro _ f ⟨rfl,e5⟩;have A:=O4.up (w':=f);refine rX o rfl (iF (by omega) (rX o rfl (iF (by omega) (rX o rfl (iF (by omega) (rX B1 rfl (ite (λJ=>?_) (λJ=>?_))))))))
  ·refine rX o rfl (rX B1 rfl ?_);refine ite (λK=>?_) (λK=>?_)
   ·have p:nextL g q x=[]:=by unfold nextL;rw [if_pos ⟨by rw [<-C.1];exact J,by rw [<-C.2];exact K⟩]
    have ON:Own w.heap.size E.qc f (.slice none 0 0) (nextL g q x):=by rw [p];exact Own.nil _ _ _
    exact⟨⟨_,rfl,ON⟩,stp⟩
   ·have y:¬(q.kind=3/\q.rad<=x.d):=λh=>K (by rw [C.2];exact h.2)
    have p:nextL g q x=sendL x (nbL g x.key.dir b):=by
     unfold nextL sendL;rw [if_neg y,z];rfl
    have il:=zDl (nbL g x.key.dir b);have t:=A.shape;obtain⟨la,lc,rfl⟩:=t;have M:=A.sl;refine cnt1 TBok 69 [13] 11 69 (nbL g x.key.dir b).length (λk v u=>Own f.heap.size E.qc u v (sendL x ((nbL g x.key.dir b).take k))/\Stp f u) rfl rfl ⟨Own.nil _ _ _,stp⟩ ?_;rintro k N G u Q ⟨O,su⟩;refine ite (λhlt=>?_) (λS=>?_)
    ·have c:k<(nbL g x.key.dir b).length:=by omega
     refine rix (M.up (w':=u)) (i:=k) (x:=((nbL g x.key.dir b)[k]:Int)) (zDk c) λb6 o6 T=>rload1 (T.cell0 rfl) (rX o rfl (rX o rfl ?_));refine rbuild (cs:=enc (⟨x.key.slot,x.key.dir,(nbL g x.key.dir b)[k]⟩:KeyD)) rfl (rX o rfl (rA (rbuild (cs:=enc (⟨⟨x.key.slot,x.key.dir,(nbL g x.key.dir b)[k]⟩,x.d+1⟩:StD)) rfl (rbs1 (⟨⟨x.key.slot,x.key.dir,(nbL g x.key.dir b)[k]⟩,x.d+1⟩:StD) rfl rfl (by decide) λb7 U n7 _ V=>rapp1 (u:=f) ⟨rfl,rfl⟩ (O.up (w':=U)) V (by unfold sendL;simp;omega) λW X Y f8 s8=>?_))));have e:Own f.heap.size E.qc X W (sendL x ((nbL g x.key.dir b).take (k+1))):=by rw [zDu x c];exact Y
     exact rA ⟨rfl,c,e,stp⟩
    ·have t:k=(nbL g x.key.dir b).length:=by omega
     obtain rfl:=t;have e:Own w.heap.size E.qc u N (nextL g q x):=by rw [p,<-Qg (l:=nbL g x.key.dir b)];exact O.mono (lz w f)
     exact⟨⟨_,rfl,e⟩,stp⟩
  ·have y:¬(q.kind=3/\q.rad<=x.d):=λh=>J (by rw [C.1];exact h.1)
   have p:nextL g q x=sendL x (nbL g x.key.dir b):=by
    unfold nextL sendL;rw [if_neg y,z];rfl
   have il:=zDl (nbL g x.key.dir b);have t:=A.shape;obtain⟨la,lc,rfl⟩:=t;have M:=A.sl;refine cnt1 TBok 69 [13] 11 69 (nbL g x.key.dir b).length (λk v u=>Own f.heap.size E.qc u v (sendL x ((nbL g x.key.dir b).take k))/\Stp f u) rfl rfl ⟨Own.nil _ _ _,stp⟩ ?_;rintro k N G u Q ⟨O,su⟩;refine ite (λhlt=>?_) (λS=>?_)
   ·have c:k<(nbL g x.key.dir b).length:=by omega
    refine rix (M.up (w':=u)) (i:=k) (x:=((nbL g x.key.dir b)[k]:Int)) (zDk c) λb6 o6 T=>rload1 (T.cell0 rfl) (rX o rfl (rX o rfl ?_));refine rbuild (cs:=enc (⟨x.key.slot,x.key.dir,(nbL g x.key.dir b)[k]⟩:KeyD)) rfl (rX o rfl (rA (rbuild (cs:=enc (⟨⟨x.key.slot,x.key.dir,(nbL g x.key.dir b)[k]⟩,x.d+1⟩:StD)) rfl (rbs1 (⟨⟨x.key.slot,x.key.dir,(nbL g x.key.dir b)[k]⟩,x.d+1⟩:StD) rfl rfl (by decide) λb7 U n7 _ V=>rapp1 (u:=f) ⟨rfl,rfl⟩ (O.up (w':=U)) V (by unfold sendL;simp;omega) λW X Y f8 s8=>?_))));have e:Own f.heap.size E.qc X W (sendL x ((nbL g x.key.dir b).take (k+1))):=by rw [zDu x c];exact Y
    exact rA ⟨rfl,c,e,stp⟩
   ·have t:k=(nbL g x.key.dir b).length:=by omega
    obtain rfl:=t;have e:Own w.heap.size E.qc u N (nextL g q x):=by rw [p,<-Qg (l:=nbL g x.key.dir b)];exact O.mono (lz w f)
    exact⟨⟨_,rfl,e⟩,stp⟩
abbrev wkX (B b1 bw:Nat) (v:Value) (ne:Prop):Nat->Prop:=λi=>i<B\/i=b1\/i=bw\/(ne/\Value.blk v=some i)
structure WrkD (w0:World) (xq:RQ) (xr:RRow) (L:List StD) (a:Option Addr) (c b1 bw:Nat) (u:World):Prop where
 k0:Kp (λi=>i<w0.heap.size) w0 u
 b:Bk u b1 [.pointer (some ⟨bw,0,none⟩)] E.yd
 w:Bk u bw (enc xq++enc xr++[.slice a L.length c,.int .i64 0]) E.yp
 l:SlF u (.slice a L.length c) L
theorem WrkD.kp{w0:World}{xq:RQ}{p:RRow}{L:List StD}{c d e:Nat}(h:WrkD w0 xq p L a c d e u)(k:Kp (wkX w0.heap.size d e (.slice a L.length c) (L≠[])) u u'):WrkD w0 xq p L a c d e u':=
 ⟨h.k0.trans ⟨λi o r t f=>k.k i o r t (.inl f)⟩,h.b.kp k (.inr (.inl rfl)),h.w.kp k (.inr (.inr (.inl rfl))),h.l.kp k λv b f=>.inr (.inr (.inr ⟨v,f⟩))⟩
theorem SlF.kp0{α:Type}[Enc α]{w0:World}{v:Value}{l:List α}(h:SlF w0 v l)(k:Kp (λi=>i<w0.heap.size) w0 u):SlF u v l:=
 h.kp k λd b e=>by obtain⟨g,c,f⟩:=h.lt d;rw [e] at c;cases c;exact f
theorem RwF.kp0{w0:World}{x:RRow}{r:List EdN}(h:RwF w0 x g r)(k:Kp (λi=>i<w0.heap.size) w0 u):RwF u x g r:=
 ⟨h.rev',h.off.kp0 k,h.to.kp0 k,h.rof.kp0 k,h.rev.kp0 k⟩
def OkX (g:GrD) (x:StD):Prop:=mayX x/\x.key.v<g.n
theorem zPm{r:List EdN}{w0:World}{xq:RQ}{H:RRow}{L:List StD}{c I O:Nat}(hg:GrIs g)(R:RwF w0 H g r)(hk:xq.kind=q.kind/\xq.rad=q.rad)(hL:∀x∈L,OkX g x)(hn:L.length<=100000):
  SeqG PP F.qk [] [.pointer (some ⟨I,0,none⟩)] Ext (Kp (wkX w0.heap.size I O (.slice a L.length c) (L≠[]))) (WrkD w0 xq H L a c I O)
  (λys x u=>∃h:ys.length<L.length,∃v,x=[agg L[ys.length],v]/\Own 0 E.qc u v (nextL g q L[ys.length])) (λys=>ys.length=L.length):=by
 refine⟨λy J Jx w hJ a0 hY h0 Q=>?_⟩;refine eN ?_;refine rX Q.b rfl (rX Q.w rfl (cnt TBok 13 [4,5,6,7] 13 L.length (λk u=>∃ys,ys.length=k/\J ys u/\WrkD w0 xq H L a c I O u) rfl rfl ⟨[],rfl,h0,Q⟩ ?_));rintro k g' u a1 ⟨ys,f,hj,D⟩;refine ite (λhlt=>?_) (λa4=>?_)
 ·have o:k<L.length:=by omega
  have⟨p,S⟩:=hL _ (Qa o);refine rix D.l (x:=L[k]) (by simp) λb4 o4 A4=>rloadA A4 rfl (ral λb5 u5 n5 z5=>?_);have a5:=n5.b;have a6:=n5.s;refine rE z5 (L[k]) λK M f6=>?_;have M:Bk K b5 (enc L[k]) E.qc:=M;have s6:Stp u K:=⟨Fr.st (lE u u5) f6 λi hi=>by omega⟩;refine rG M (L[k].key) (rX M rfl ?_);refine rbuild (cs:=enc L[k]) rfl (ral λb7 u7 n7 z7=>?_);have a7:=n7.b;have a8:=n7.s;refine rE z7 (L[k]) λT N f8=>?_;have N:Bk T b7 (enc L[k]) E.qf:=N;have s8:Stp K T:=⟨Fr.st (lE K u7) f8 λi hi=>by omega⟩;have t:=D.kp (.of_ext (lE u T));clear z5 f6 z7 f8;refine dQ 15 λu9 e9=>tX t.b rfl nf (tG t.w xq nf (tX t.b rfl nf (tG t.w H nf (tG N (L[k]) nf ?_))));have D9:=t.kp (.of_ext e9.e);refine rcall (zKo (q:=q) hg (R.kp0 D9.k0) hk p (by have:=p.1.2.2.1;exact this) S) ?_;rintro _ d ⟨⟨U,rfl,V⟩,W⟩;refine⟨W.e,?_⟩;refine iF (· rfl) (rG N (L[k]) ?_);have z:=hJ _ _ _ hj (lE u d);have X:=D9.kp (.of_ext (lE u9 d));have Y:ys.length<L.length:=by omega
  have A:Own 0 E.qc d U (nextL g q L[ys.length]):=by have:=V.mono (XE _);simpa only [f] using this
  have Z:agg L[k]=agg L[ys.length]:=by simp only [f]
  refine ryield (vs:=[agg L[k],U]) rfl rfl rfl rfl (hY ys d _ ⟨Y,U,by rw [Z],A⟩ z) ?_;rintro bb a9 ⟨⟨rfl,C⟩|⟨rfl,G⟩,hK⟩
  ·exact rA ⟨rfl,o,_,by simp [f],C,X.kp hK⟩
  ·exact .inr G
 ·exact .inl ⟨ys,by omega,hj⟩
theorem zEw{c:Nat}{w:World}:Sp PP F.pb #[.pointer (some ⟨c,0,none⟩)] w λv w'=>(∃b,v=.func (.func F.qk) #[] #[.pointer (some ⟨b,0,none⟩)]/\Nx w w' b/\Bk w' b [.pointer (some ⟨c,0,none⟩)] E.yd):=by
 refine eN ?_;refine rbx λb w1 n1 d=>?_;exact⟨b,rfl,n1,d⟩
theorem zNw{x:StD}{b:Nat}{n:Int}{w:World}(N:Bk w b [.int .i64 n] E.qb):Sp PP F.yo #[agg x,.pointer (some ⟨b,0,none⟩)] w λv w'=>Tells (x.key.v≥n) v/\Stp w w':=by
 refine eN ?_;refine rbx λd w1 n1 c=>rX c rfl (rX N rfl ?_);exact ite (λh=>⟨.t h,stp⟩) (λh=>⟨.f h,stp⟩)
theorem zNe{α:Type}(f:α->Int)(l:List α)(W:Nat):(((List.range W).flatMap λp:Nat=>l.filter λx=>decide (f x=(p:Int)))).Perm (l.filter λx=>decide (0<=f x/\f x<W)):=by
 induction W with
 |zero =>
  have:(l.filter λx=>decide (0<=f x/\f x<((0:Nat):Int)))=[]:=JA.2 λx _=>by simp <;> omega
  rw [this];exact .refl _
 |succ W b =>
  rw [Jm,Jl];refine(b.append_right _).trans ?_;clear b;simp only [JV,XM,QE]
  induction l with
  |nil=>exact .refl _
  |cons x r b =>
   by_cases e:0<=f x/\f x<(W:Int)
   ·have d:¬f x=(W:Int):=by omega
    have c:0<=f x/\f x<((W+1:Nat):Int):=by omega
    rw [JL (by simpa using e),Jw (by simpa using d),JL (by simpa using c)];exact b.cons x
   ·by_cases d:f x=(W:Int)
    ·have c:0<=f x/\f x<((W+1:Nat):Int):=by omega
     rw [Jw (by simpa using e),JL (by simpa using d),JL (by simpa using c)];exact List.perm_middle.trans (b.cons x)
    ·have c:¬(0<=f x/\f x<((W+1:Nat):Int)):=by omega
     rw [Jw (by simpa using e),Jw (by simpa using d),Jw (by simpa using c)];exact b
def homV (W:Nat) (v:Int):Value:=if 0<=v/\v<=1000000/\1<=W/\W<=16 then .tuple #[.int .i64 (homW W v),.bool true] else .tuple #[.int .i64 0,.bool false]
theorem zH5{W:Nat}(h:1<=W)(v:Int):∃p:Nat,homW W v=p/\p<W:=by
 have b:=Vs ((v*40503+12345) % 65536) (show (W:Int)≠0 by omega);have c:=VT ((v*40503+12345) % 65536) (show (0:Int)<W by omega);exact⟨(homW W v).toNat,by unfold homW;omega,by unfold homW;omega⟩
theorem zCx{v:Int}{W:Nat}{w:World}:Sp PP F.qbc #[.int .i64 v,.int .i64 (W:Int)] w λr w'=>r=homV W v/\w'=w:=by
 have b:¬(0<=v/\v<=1000000/\1<=W/\W<=16)->homV W v=.tuple #[.int .i64 0,.bool false]:=λh=>by unfold homV;rw [if_neg h]
 refine eN ?_;refine ite (λh=>⟨(b (by omega)).symm,rfl⟩) (λc=>?_);refine ite (λh=>⟨(b (by omega)).symm,rfl⟩) (λd=>?_);refine ite (λh=>⟨(b (by omega)).symm,rfl⟩) (λf=>?_);refine ite (λh=>⟨(b (by omega)).symm,rfl⟩) (λl=>?_);have e:homV W v=.tuple #[.int .i64 ((v*40503+12345) % 65536 % W),.bool true]:=by unfold homV homW;rw [if_pos (by omega)]
 rw [e];refine rA (rA (rrem (by omega) (by omega) (rrem (Vs _ (by decide)) (by omega) ?_)));exact⟨rfl,rfl⟩
structure RwM where
 s:SV
 l:List StD
instance:Enc RwM:=⟨1,λx=>[.slice x.s.a x.s.n x.s.c],λ_=>rfl,by intro x u hu;simp at hu;subst hu;rfl,by decide⟩
instance:Inhabited RwM:=⟨⟨⟨none,0,0⟩,[]⟩⟩
abbrev RwM.v (x:RwM):Value:=.slice x.s.a x.s.n x.s.c
theorem zMs{w:World}{v:Value}{l:List StD}(h:SlF w v l):∃x:RwM,v=x.v/\x.l=l:=by
 have b:=h.shape;obtain⟨a,c,rfl⟩:=b;exact⟨⟨⟨a,l.length,c⟩,l⟩,rfl,rfl⟩
structure RowsM (B:Nat) (w:World) (v:Value) (M:List RwM):Prop where
 top:Own B E.qn w v M
 rows:∀x∈M,Own B E.qc w x.v x.l
 apart:∀i j (hi:i<M.length) (hj:j<M.length),i≠j->∀g,Value.blk M[i].v=some g->Value.blk M[j].v≠some g
 lt:∀x∈M,∀g,Value.blk x.v=some g->g<w.heap.size
theorem RowsM.up{w:World}[Le w w']{v:Value}{M:List RwM}(R:RowsM B w v M):RowsM B w' v M:=
 ⟨R.top.up,λx b=>(R.rows x b).up,R.apart,λx b g c=>QJ (R.lt x b g c) (lz w w')⟩
theorem RowsM.put{w:World}{v:Value}{M:List RwM}{x:RwM}(R:RowsM B w v M)(hi:i<M.length)(F:Own B E.qc w1 x.v x.l)(C:Fr (ownD B M[i].v) w w1)
  (D:Value.blk x.v=Value.blk M[i].v\/Value.blk x.v=some w.heap.size)(o:∀g,Value.blk x.v=some g->g<w1.heap.size)(G:Own B E.qn w2 v (M.set i x))(e:FrT B [E.qn] w1 w2):RowsM B w2 v (M.set i x):=by
 have H:M[i]∈M:=Qa hi;refine⟨G,λy r=>?_,λp q d f t g c b=>?_,λy r g c=>?_⟩
 ·have z:=QI.1 r;obtain⟨p,d,rfl⟩:=z;rw [Jc] at d;rw [Xh];split
  ·exact F.kept e (by decide)
  ·rename_i A;have:=(R.rows _ (Qa d)).fr C λg _ c hd=>R.apart i p hi d A g hd.2.1 c;exact this.kept e (by decide)
 ·rw [Jc] at d f;rw [Xh] at c b;split at c
  ·rename_i I;rw [if_neg (by omega)] at b;rcases D with h|h
   ·rw [h] at c;exact R.apart i q hi f (by omega) g c b
   ·rw [h] at c;cases c;exact absurd (R.lt _ (Qa f) _ b) (Yc _)
  ·split at b
   ·rcases D with h|h
    ·rw [h] at b;exact R.apart i p hi d (by omega) g b c
    ·rw [h] at b;cases b;exact absurd (R.lt _ (Qa d) _ c) (Yc _)
   ·exact R.apart p q d f t g c b
 ·have z:=QI.1 r;obtain⟨p,d,rfl⟩:=z;rw [Jc] at d;rw [Xh] at c;split at c
  ·exact QJ (o g c) e.size
  ·exact QJ (R.lt _ (Qa d) g c) (Qw C.size e.size)
theorem RowsM.zero{w:World}{v:Value}{K:Nat}(O:Own B E.qn w v (List.replicate K (default:RwM))):RowsM B w v (List.replicate K (default:RwM)):=by
 refine⟨O,λx c=>?_,λi j hi d _ g b=>?_,λx c g b=>?_⟩
 ·rw [List.eq_of_mem_replicate c];exact Own.nil _ _ _
 ·rw [List.getElem_replicate] at b;cases b
 ·rw [List.eq_of_mem_replicate c] at b;cases b
def boxL (W:Nat) (l:List StD) (p:Nat):List StD:=l.filter λx=>decide (homW W x.key.v=(p:Int))
theorem zIB(W:Nat)(l:List StD)(p:Nat)(x:StD):boxL W (l++[x]) p=boxL W l p++if homW W x.key.v=(p:Int) then [x] else []:=by
 unfold boxL;rw [QV];congr 1;by_cases h:homW W x.key.v=(p:Int) <;> simp [h]
theorem zJL(W:Nat)(l:List StD)(p:Nat):(boxL W l p).length<=l.length:=Qv _ _
theorem zJj{c:Nat}{l:List StD}{W:Nat}{w:World}(h:SlF w (.slice a n c) l)(hn:l.length<=100000)(hW:1<=W/\W<=16)(hm:∀x∈l,mayX x):
  Sp PP F.qac #[.slice a n c,.int .i64 (W:Int)] w λr w'=>(∃v M,r=.tuple #[v,.int .i64 0]/\RowsM w.heap.size w' v M/\M.length=W/\∀p (Z:p<M.length),M[p].l=boxL W l p)/\Stp w w':=by
 have y:=h.len;obtain rfl:=y;refine eN ?_;refine rcall (zCx (v:=0) (W:=W)) ?_;rintro _ w1 ⟨rfl,rfl⟩;have e0:homV W 0=.tuple #[.int .i64 (homW W 0),.bool true]:=if_pos ⟨by omega,by omega,hW⟩;rw [e0];refine rcall (zCw (h.up (w':=w1)) (by omega)) ?_;rintro _ w2 ⟨⟨rfl,_⟩|⟨rfl,h2⟩,e2⟩
 case' inr=>exact absurd hm h2
 refine rmk (default:RwM) rfl rfl (by omega) λg w3 O3 s3 a8=>?_;have R3:=RowsM.zero O3;have z2:=e2.e.size
 refine cnt TBok 29 [4,5,10,11,12] 29 l.length (λi u=>(∃M,RowsM w2.heap.size u (.slice (some ⟨g,0,none⟩) W W) M/\M.length=W/\∀p (Z:p<M.length),M[p].l=boxL W (l.take i) p)/\Stp w2 u) rfl rfl
  ⟨⟨_,R3,by simp,λp Z=>by rw [List.getElem_replicate];rfl⟩,stp⟩ ?_
 rintro i g2 u hi ⟨⟨M,R,hM,f⟩,e⟩;have a9:=lz w2 u;refine ite (λhlt=>?_) (λb0=>?_)
 ·have z:i<l.length:=by omega
  refine rix (h.up (w':=u)) (x:=l[i]) (by simp) λb4 o4 A4=>rloadA A4 rfl (ral λb5 u5 n5 z5=>?_);have a4:=n5.b;have b1:=n5.s;refine rE z5 (l[i]) λu6 X6 f6=>?_;have X6:Bk u6 b5 (enc l[i]) E.qc:=X6;have s6:Stp u u6:=⟨Fr.st (lE u u5) f6 λi hi=>by omega⟩;have H:=hm _ (Qa z);have y:=zH5 hW.1 l[i].key.v;obtain⟨p,Z,b2⟩:=y;refine rX X6 rfl (rcall (zCx (v:=l[i].key.v) (W:=W)) ?_);rintro _ u7 ⟨rfl,rfl⟩
  have e7:homV W l[i].key.v=.tuple #[.int .i64 (p:Int),.bool true]:=by
   rw [<-Z];exact if_pos ⟨H.1.2.2.2.1,by have:=H.1.2.2.2.2;omega,hW⟩
  rw [e7];have d:p<M.length:=by omega
  have R6:=R.up (w':=u7)
  have b3:M[p].l.length<=l.length:=by
   rw [f p d];have:=zJL W (l.take i) p;rw [Qm] at this;omega
  have b6:=X6.lt;refine dT (λi=>i≠b5) (oL [0,1,2,3,4,6] (.duo 5 (oL [7,8,9,10] .nil) 7 (.lone 5 (oL [8,9,10] .nil)))) λw8 e8=>?_;have R8:=R6.up (w':=w8);refine tixO rfl R8.top (x:=M[p]) (by simp) λg9 J _ A9=>tG X6 (l[i]) (by simp) ?_;have b7:=lz u7 w8;have b8:=lz w2 w8;have b9:u.heap.size=b5:=a4.symm;have a0:∀g,Value.blk M[p].v=some g->g<u.heap.size:=R.lt _ (Qa d)
  have a1:g9≠b5:=by
   have q:=R.top.lt (by intro h0;rw [h0] at d;simp at d);obtain⟨g',I,_,h2⟩:=q;rw [J] at I;cases I;omega
  refine⟨?_,?_⟩
  ·refine rload1 (A9.cell0 rfl) ⟨Fr.refl _ _,?_⟩;refine rbs1 l[i] rfl rfl (by decide) λa5 t K _ L=>⟨Fr.fr K.e,?_⟩;have o:=R8.up (w':=t)
   refine rappD ⟨rfl,rfl⟩ (o.rows _ (Qa d)) L (by simp) (by have:=lz w2 t;omega) (by simp;omega) λv7 a6 D G N=>⟨G.mono λj a7 O=>by
    have:=a0 j O.2.1;omega,?_⟩
   have Q:M[p].l++[l[i]]≠[]:=by simp
   have y:=D.lt Q;obtain⟨g7,S,_,A⟩:=y;have y:=zMs D.sl;obtain⟨x,rfl,T⟩:=y;have U:=o.top.kept ((o.rows _ (Qa d)).wrote G (Qe _) (Qc.2 rfl)) (by decide);refine tixO rfl U (x:=M[p]) (by simp) λg8 V _ _=>?_
   refine rstO' rfl x U V d rfl λu8 O8 X _=>⟨X.mono λj _ O=>by
    have I:=O.2.1;rw [J] at I;cases I;exact a1,?_⟩
   have F8:=U.wrote X (Qe _) (Qc.2 (rfl:E.qn=E.qn));rw [<-T] at D;have Y:=o.put d D G N (λg hg=>by rw [S] at hg;cases hg;exact A) O8 F8;have s8:Stp w2 u8:=⟨Fr.st (Fr.st (lE w2 t) G λi hi=>hi.1) X λi hi=>hi.1⟩;refine rA ⟨rfl,z,⟨_,Y,by simp [hM],λq hq=>?_⟩,stp⟩;rw [Jc] at hq;rw [take_add z,zIB,Z,Xh];split
   ·rename_i C;subst C;rw [if_pos rfl,T,f _ d]
   ·rename_i C;rw [if_neg (by omega),QE];exact f q hq
  ·refine rbs1 l[i] rfl rfl (by decide) λa5 t K _ L=>⟨Fr.fr K.e,?_⟩;refine rload1 ((A9.up (w':=t)).cell0 rfl) ⟨Fr.refl _ _,?_⟩;have o:=R8.up (w':=t)
   refine rappD ⟨rfl,rfl⟩ (o.rows _ (Qa d)) L (by simp) (by have:=lz w2 t;omega) (by simp;omega) λv7 a6 D G N=>⟨G.mono λj a7 O=>by
    have:=a0 j O.2.1;omega,?_⟩
   have Q:M[p].l++[l[i]]≠[]:=by simp
   have y:=D.lt Q;obtain⟨g7,S,_,A⟩:=y;have y:=zMs D.sl;obtain⟨x,rfl,T⟩:=y;have U:=o.top.kept ((o.rows _ (Qa d)).wrote G (Qe _) (Qc.2 rfl)) (by decide);refine tixO rfl U (x:=M[p]) (by simp) λg8 V _ _=>?_
   refine rstO' rfl x U V d rfl λu8 O8 X _=>⟨X.mono λj _ O=>by
    have I:=O.2.1;rw [J] at I;cases I;exact a1,?_⟩
   have F8:=U.wrote X (Qe _) (Qc.2 (rfl:E.qn=E.qn));rw [<-T] at D;have Y:=o.put d D G N (λg hg=>by rw [S] at hg;cases hg;exact A) O8 F8;have s8:Stp w2 u8:=⟨Fr.st (Fr.st (lE w2 t) G λi hi=>hi.1) X λi hi=>hi.1⟩;refine rA ⟨rfl,z,⟨_,Y,by simp [hM],λq hq=>?_⟩,stp⟩;rw [Jc] at hq;rw [take_add z,zIB,Z,Xh];split
   ·rename_i C;subst C;rw [if_pos rfl,T,f _ d]
   ·rename_i C;rw [if_neg (by omega),QE];exact f q hq
 ·have y:i=l.length:=by omega
  obtain rfl:=y;rw [Qg] at f;exact⟨⟨_,M,rfl,⟨R.top.mono z2,λx T=>(R.rows x T).mono z2,R.apart,R.lt⟩,hM,f⟩,stp⟩
end Go.W
namespace Go.W
open Go
open Enc (enc)
variable {B i j k m n n2 n3:Nat} {P:Program} {a a2 a3:Option Addr} {g:GrD} {ps:List Int} {q:QyD} {s:List UInt8} {u u' w' w1 w2:World}
def okK (m:Nat) (keep slots:List Nat) (c:Code):Bool:=okC m keep (4294967296::slots) c && nodupB (4294967296::slots) && !memB slots 4294967296
theorem zNF{keep slots:List Nat}{c:Code}(b:okC m keep slots c=true){F G:Nat->Value}(h:agree (wr c) F G):
  hdF m keep (zipS slots (mapF G slots)) G F=G:=by
 funext t;unfold hdF;rw [zJ7]
 cases e:memB slots t with
 |true=>rfl
 |false =>
  simp only [cond_false]
  cases f:(Nat.beq t 4294967296 || xor (Nat.blt t m) (memB keep t)) with
  |false=>rfl
  |true =>
   simp only [cond_true]
   cases d:wr c t with
   |false=>exact(h t d).symm
   |true =>
    have:=zKb c b t d;simp only [okD,e,Bool.false_or,f] at this;cases this
section
variable {P:Program} {T:Tab} {n:Nat}
theorem loopK(V:T.ok P=true)(m:Nat)(keep slots:List Nat)(I:Value->List Value->World->Prop)(K:List Value->World->Nat){body:Code}{Q:KS}{F:Nat->Value}{w:World}
  (v:okK m keep slots body=true)(h0:I (F 4294967296) (mapF F slots) w)
  (W:∀d vs g w,vs.length=slots.length->I d vs w->S P T n body
   { Q with nrm:=λL w'=>I (L 4294967296) (mapF L slots) w'/\K (mapF L slots) w'<K vs w } (hdF m keep ((4294967296,d)::zipS slots vs) g F) w):DeepS P T n (.loop body) Q F w:=by
 rw [zAC];intro md M a X;simp only [okK,Qz,VJ] at v
 have f:∀(A B:Nat->Value),(∀t,t≠4294967296->A t=B t)->mapF A slots=mapF B slots:=by
  intro A B N
  have:∀l:List Nat,memB l 4294967296=false->mapF A l=mapF B l:=by
   intro l
   induction l with
   |nil=>intro _;rfl
   |cons s r Y =>
    intro h;simp only [memB,QG] at h;simp only [mapF];rw [Y h.2,N s λe=>by subst e;simp at h]
  exact this slots v.2
 have C:∀(G:Nat->Value),agree (wr body) F G->hdF m keep ((4294967296,G 4294967296)::zipS slots (mapF G slots)) G F=G:=λG J=>zNF (slots:=4294967296::slots) v.1.1 J;refine wpIn_loop (λz w'=>∃G,Rel n G z/\agree (wr body) F G/\I (G 4294967296) (mapF G slots) w') (λz w'=>K (mapF (λt=>z.tmps.getD t undef) slots) w') ⟨F,X,λ_ _=>rfl,h0⟩ ?_;rintro z w' ⟨G,J,c,Z⟩
 have D:(mapF G slots).length=slots.length:=by
  have:∀l,(mapF G l).length=l.length:=by intro l;induction l <;> simp_all [mapF]
  exact this slots
 have U:=W (G 4294967296) (mapF G slots) G w' D Z;rw [C G c] at U;have O:mapF (λt=>z.tmps.getD t undef) slots=mapF G slots:=f _ _ J.get;refine Jb ?_ (zBN V body _ _ _ U md M z J);intro e R a0 E;cases e <;> simp only [KS.lift,Exit.then] at E ⊢
 ·obtain⟨o,p,x,y,h4⟩:=E;have H:mapF (λt=>R.tmps.getD t undef) slots=mapF o slots:=f _ _ p.get;refine⟨⟨o,p,λt b=>by rw [x t b,c t b],y⟩,?_⟩;rw [O,H];exact h4
 ·obtain⟨o,p,x,y⟩:=E;exact⟨o,p,λt b=>by simp only [wr] at b;rw [x t b,c t b],y⟩
 ·obtain⟨o,p,x,y⟩:=E;exact⟨o,p,λt b=>by simp only [wr] at b;rw [x t b,c t b],y⟩
 ·obtain⟨o,p,x,y⟩:=E;exact⟨o,p,λt b=>by simp only [wr] at b;rw [x t b,c t b],y⟩
theorem cnt1K(p:T.ok P=true)(m:Nat)(keep:List Nat)(c s:Nat)(N:Nat)(I:Nat->Value->Value->World->Prop){body:Code}{Q:KS}{F:Nat->Value}{w:World}
  (e:okK m keep [c,s] body=true)(r:F s=.int .i64 0)(h0:I 0 (F 4294967296) (F c) w)
  (t:∀(k:Nat) d b g w,k<=N->I k d b w->S P T n body { Q with nrm:=λf w'=>f s=.int .i64 ((k:Int)+1)/\k<N/\I (k+1) (f 4294967296) (f c) w' } (hdF m keep [(4294967296,d),(c,b),(s,.int .i64 k)] g F) w):DeepS P T n (.loop body) Q F w:=by
 refine loopK p m keep [c,s] (λd vs w=>match vs with|[b,v]=>∃k:Nat,k<=N/\v=.int .i64 k/\I k d b w|_=>False) (λvs _=>match vs with|[_,v]=>N - (Go.RowKit.intOf v).toNat|_=>0) e ⟨0,by omega,r,h0⟩ ?_;intro d vs g w A l
 match vs,l with
 |[b,v],l =>
  obtain⟨k,x,rfl,hi⟩:=l;refine S_mono _ _ _ _ _ (t k d b g w x hi) ?_ (λ_ _ _ _ h=>h) (λ_ _ _ h=>h) (λ_ _ _ _ h=>h);intro G w' _ h;obtain⟨o,y,z⟩:=h;refine⟨⟨k+1,y,o,z⟩,?_⟩;show N - (Go.RowKit.intOf (G s)).toNat<N - _;rw [o];show N - ((k:Int)+1).toNat<N - ((k:Int)).toNat;omega
def mks (Ds:List Nat):List Deferred:=Ds.map λD=>{ target:=.collected D,args:=#[] }
structure Mks (B C:Nat) (d:Value) (u:World):Prop where
 ex:∃Ds,decD d=mks Ds/\Ds.Nodup/\∀D∈Ds,B<=D/\D<C/\u.heap[D]? = some (.deferred (some []))
theorem Mks.fr{E:Nat->Prop}{C:Nat}{d:Value}(h:Mks B C d u)(f:Fr E u u'):Mks B C d u':=by
 obtain⟨e,l,o,b⟩:=h;exact⟨e,l,o,λD c=>⟨(b D c).1,(b D c).2.1,f.nc _ _ (b D c).2.2 rfl⟩⟩
theorem Mks.qt{C:Nat}{d:Value}(h:Mks B C d u)(q:Qt C u u'):Mks B C d u':=by
 obtain⟨e,f,l,b⟩:=h;exact⟨e,f,l,λD c=>⟨(b D c).1,(b D c).2.1,q.block _ _ (b D c).2.2 (.inl (b D c).2.1)⟩⟩
theorem Mks.lt{C e:Nat}{d:Value}(h:Mks B C d u)(f:C<=e):Mks B e d u:=by
 obtain⟨l,o,p,b⟩:=h;exact⟨l,o,p,λD c=>⟨(b D c).1,QJ (b D c).2.1 f,(b D c).2.2⟩⟩
theorem Mks.nil(B C:Nat)(u:World){d:Value}(h:decD d=[]):Mks B C d u:=⟨[],h,.nil,λ_ h=>nomatch h⟩
theorem Mks.add{C D:Nat}{d:Value}(h:Mks B C d u)(e:B<=D)(r:C<=D)(hd:u.heap[D]? = some (.deferred (some []))):Mks B u.heap.size (consD (.pointer (some ⟨D,0,none⟩)) d) u:=by
 obtain⟨f,l,o,c⟩:=h;refine⟨D::f,by rw [zDf _ _ _ rfl,l];rfl,JC.2 ⟨λp=>by have:=(c D p).2.1;omega,o⟩,λE b=>?_⟩;rcases Ql.1 b with rfl|b
 ·exact⟨e,blk_lt hd,hd⟩
 ·exact⟨(c E b).1,blk_lt (c E b).2.2,(c E b).2.2⟩
theorem leaveL{l:List ResultVar}{F:Nat->Value}{R:Value->World->Prop}{pn:List PanicEntry->World->Prop}:∀(b:List Nat) (u:World),b.Nodup->(∀D∈b,B<=D/\u.heap[D]? = some (.deferred (some []))) ->
  (∀u',Qt B u u'->resS P l [] F R u')->LeaveS P l F (mks b) .returning R pn u
 |[],u,_,_,h=>leave_ret (h u (.of_ext (Fr.refl _ _)))
 |D::b,u,c,d,h=>by
  rw [JC] at c;have e:=d D Qs;have q:Qt B u (u.putObj D (.deferred none)):=Qt.put e.2 rfl e.1;refine zHu (by intro h;cases h) e.2 (leaveL b _ c.2 (λE f=>⟨(d E (QF _ f)).1,?_⟩) λu' o=>h u' (q.trans o));rw [Jk]
  ·exact(d E (QF _ f)).2
  ·rintro rfl;exact c.1 f
theorem zN5{b:List ResultVar}{F:Nat->Value}{R:Value->World->Prop}{pn:List PanicEntry->World->Prop}{C:Nat}{d:Value}(f:F 4294967296=d)(M:Mks B C d u)(h:∀u',Qt B u u'->resS P b [] F R u'):retS P b R pn F u:=by
 obtain⟨l,o,p,c⟩:=M;unfold retS;rw [f,o]
 cases l with
 |nil=>exact h u (.of_ext (Fr.refl _ _))
 |cons D r=>exact leaveL (D::r) u p (λE e=>⟨(c E e).1,(c E e).2.2⟩) h
end
end Go.W
namespace Go.W
open Go Go.Proofs
open Enc (enc)
set_option maxRecDepth 10000
variable {B i j k m n n2 n3:Nat} {P:Program} {a a2 a3:Option Addr} {g:GrD} {ps:List Int} {q:QyD} {s:List UInt8} {u u' w' w1 w2:World}
theorem zHV{c:Nat}{l:List StD}{w:World}(h:SlF w (.slice a n c) l)(K:l.length<=1000000):Sp PP F.z0 #[.slice a n c] w λv w'=>Own w.heap.size E.qf w' v l/\Stp w w'/\∀b,Value.blk v=some b->b<w'.heap.size:=by
 have D:=h.len;obtain rfl:=D;refine eN ?_;refine rsnil (λt=>?_) (λt=>?_)
 ·have G:l=[]:=by
   obtain⟨L,M,H,_,f⟩:=h;cases H;rcases f with f|⟨b,o,d,_⟩
   ·exact f
   ·rw [t] at d;cases d
  subst G;exact⟨Own.nil _ _ _,stp,λb d=>nomatch d⟩
 ·refine rbs (α:=StD) [] rfl (vs:=[]) rfl rfl (by decide) λx w1 n1 _=>?_;have N:Stp w w1:=⟨n1.ext⟩;have y:x<w1.heap.size:=blk_lt n1.blk;refine rappE ⟨rfl,rfl⟩ (Own.nil' w.heap.size E.qf _ _) (h.up (w':=w1)) n1.ext.size (by simp;omega) λI z A C p=>?_;rw [Je] at A;have O:Stw w w1 z:=zAH C
  have e:∀b,Value.blk I=some b->b<z.heap.size:=λb d=>by
   have:=C.size;rcases p with r|⟨r,J⟩
   ·rw [r] at d;cases d;show x<_;omega
   ·rw [r] at d;cases d;exact J
  exact⟨A,stp,e⟩
theorem zPj{x:Int}{W:Nat}(h:x∈upTo W):∃p:Nat,x=(p:Int)/\p<W:=by
 unfold upTo at h;have b:=Qq.1 h;obtain⟨p,c,d⟩:=b;exact⟨p,d.symm,Q0.1 c⟩
theorem zHh{X:List StD}{W:Nat}{b:List Int}(c:1<=W)(d:b.Perm (upTo W)):(b.flatMap λp=>boxL W X p.toNat).Perm X:=by
 have e:(b.flatMap λp=>boxL W X p.toNat).Perm ((upTo W).flatMap λp=>boxL W X p.toNat):=d.flatMap_right _;refine e.trans ?_
 have f:((upTo W).flatMap λp=>boxL W X p.toNat)=(List.range W).flatMap λp:Nat=>X.filter λx=>decide (homW W x.key.v=(p:Int)):=by
  unfold upTo boxL;rw [XJ];rfl
 rw [f];refine(zNe (λx:StD=>homW W x.key.v) X W).trans ?_
 have h:(X.filter λx=>decide (0<=homW W x.key.v/\homW W x.key.v<(W:Int)))=X:=JH.2 λx _=>by
  have l:=zH5 c x.key.v;obtain⟨p,o,r⟩:=l;simp only [decide_eq_true_eq];omega
 rw [h]
def sendsL (g:GrD) (q:QyD) (P:List StD):List StD:=P.flatMap (nextL g q)
theorem zDo(b:GrIs g)(q:QyD)(x:StD):(nextL g q x).length<=2000:=by
 unfold nextL;split
 ·simp
 ·rw [Qr];exact zCP b _ _
theorem zHR(b:GrIs g)(q:QyD)(P:List StD):(sendsL g q P).length<=2000*P.length:=by
 induction P with
 |nil=>simp [sendsL]
 |cons x r c =>
  have:=zDo b q x;unfold sendsL at *;rw [JV,Qb,QA];omega
theorem zND(S M:List StD):(freshL S M).length<=M.length:=Qw (Qv _ _) (zCi M)
theorem zOC{S M:List StD}(h:∀x∈M,OkX g x):∀x∈freshL S M,OkX g x:=λx b=>h x (zDn.1 b).1.1
theorem zP9{S M P N:List StD}(r:SRis S)(l:P.Perm (freshL S M))(t:N.Perm (S++P))(v:N.Pairwise λa b=>¬lessK b.key a.key):N=(stepL g q S M).1/\freshL N (sendsL g q P)=(stepL g q S M).2:=by
 have c:∀x∈freshL S M,∀y∈S,y.key≠x.key:=λx w=>(zDn.1 w).2;have o:SRis (insAll (freshL S M) S):=zHs r (zG4 (zHp S M)) c;have d:N.Perm (insAll (freshL S M) S):=t.trans ((l.append_left S).trans (zBc _ _).symm);have e:N.Pairwise λa b=>a.key≠b.key:=(d.pairwise_iff λh=>Jq h).2 (zG4 o);have f:SRis N:=(v.and e).imp λ⟨z,A⟩=>zCq (λC=>z C) (Jq A);have p:N=insAll (freshL S M) S:=f.uniq o λx=>d.mem_iff;refine⟨p,?_⟩;unfold stepL;simp only;rw [<-p];unfold freshL;rw [zMT (show (sendsL g q P).Perm ((freshL S M).flatMap (nextL g q)) from l.flatMap_right _)];rfl
theorem wk_two{L:List StD}{f:StD->List StD}:∀(ys:List (List Value)) (x:List Value) (u:World),(∃h:ys.length<L.length,∃v,x=[agg L[ys.length],v]/\Own 0 E.qc u v (f L[ys.length]))->x.length=2:=by
 rintro ys x u ⟨_,v,rfl,_⟩;rfl
structure StpI (g:GrD) (q:QyD) (S P:List StD) (B bn bs:Nat) (u:World) (na nc:_) (sa sc:_):Prop where
 now:Bk u bn [.slice na (S++P).length nc] E.yh
 sent:Bk u bs [.slice sa (sendsL g q P).length sc] E.qn
 on:Own B E.qf u (.slice na (S++P).length nc) (S++P)
 os:Own B E.qc u (.slice sa (sendsL g q P).length sc) (sendsL g q P)
theorem StpI.up{S P:List StD}{b bs:Nat}{c d e f:_}[Le u u'](h:StpI g q S P B b bs u c d e f):StpI g q S P B b bs u' c d e f:=⟨h.now.mv,h.sent.mv,h.on.up,h.os.up⟩
theorem StpI.qt{C:Nat}{S P:List StD}{b bs:Nat}{c d e f:_}(h:StpI g q S P B b bs u c d e f)(k:Qt C u u'):StpI g q S P B b bs u' c d e f:=⟨h.now.qt k,h.sent.qt k,h.on.qt k,h.os.qt k⟩
theorem zEV{r:List EdN}{xq:RQ}{xr:RRow}{S M:List StD}{W:Nat}{c c2 c3:Nat}{w:World}(hg:GrIs g)(R:RwF w xr g r)(hk:xq.kind=q.kind/\xq.rad=q.rad)
  (h1:SlF w (.slice a n c) S)(Y:SlF w (.slice a2 n2 c2) M)(h3:SlF w (.slice a3 n3 c3) ps)(hW:1<=W/\W<=16)(hS:SRis S)(h0:∀x∈S,OkX g x)(b8:∀x∈M,OkX g x)(m8:S.length<=10000)(m9:M.length<=400):
  Sp PP F.c5 #[agg xq,agg xr,.slice a n c,.slice a2 n2 c2,.int .i64 (W:Int),.slice a3 n3 c3] w λv w'=>(∃v1 v2,v=.tuple #[v1,v2,.int .i64 0]/\Own w.heap.size E.qf w' v1 (stepL g q S M).1/\Own w.heap.size E.qc w' v2 (stepL g q S M).2)/\Stp w w':=by
 have Z:=h1.len
 obtain rfl:=Z
 have Z:=Y.len
 obtain rfl:=Z
 have Z:=h3.len
 obtain rfl:=Z
 obtain⟨ro,rt,rr,rv⟩:=xr
 obtain⟨a4,h2,a5⟩:=ro
 have d3:h2=g.n+1:=by have:=R.off.len;rw [zAp] at this;exact this
 subst d3
 refine en TBok rfl ?_
 refine rbx λbq w1 n1 Bq=>rbx λbr w2 n2 Br=>?_
 refine rld (B:=Br) rfl ?_
 have n0:=hg.ok.n2
 refine rarE (y:=(g.n:Int)) (by show ((g.n+1:Nat):Int) - 1=(g.n:Int);omega) (by omega) ?_
 refine ral λbN w3 n3 Z3=>?_
 have n5:=n1.b;have n6:=n1.s;have n7:=n2.b;have n8:=n2.s;have n9:=n3.b;have o0:=n3.s
 refine rsto (B:=Z3) (vs:=[.int .i64 (g.n:Int)]) rfl rfl rfl (int_o _) λw4 N4 f4 _=>?_
 have N4:Bk w4 bN [.int .i64 (g.n:Int)] E.qb:=N4
 have s4:Stp w w4:=⟨Fr.st (Le.e (a:=w) (b:=w3)) f4 λi hi=>by omega⟩
 have Bq:=(Bq.mv (w:=w3)).fr f4 (by omega)
 have Br:=(Br.mv (w:=w3)).fr f4 (by omega)
 clear Z3 f4
 refine rldG (ds:=enc (⟨⟨a4,g.n+1,a5⟩,rt,rr,rv⟩:RRow)) (B:=Br) rfl rfl ?_
 refine rcall (zBG hg (R.up (w':=w4))) ?_
 rintro _ w5 ⟨rfl,e5⟩
 refine rcall (zJy (n:=W) (by omega) (h3.up (w':=w5))) ?_
 rintro _ w6 ⟨⟨ol,ov,rfl,b0,Oo⟩,e6⟩
 refine rcall (zDS (h1.up (w':=w6)) (Y.up (w':=w6)) (by omega) (by omega)) ?_
 rintro fv w7 ⟨Of,e7⟩
 have d4:=zOC (S:=S) b8
 have o3:=zND S M
 have Z:=Of.shape
 obtain⟨fa,fc,rfl⟩:=Z
 refine rcall (zJj Of.sl (by omega) hW λx hx=>(d4 x hx).1) ?_
 rintro _ w8 ⟨⟨bv,MB,rfl,RB,o4,d5⟩,e8⟩
 have qb:=RB.top.shape
 obtain⟨ba,bc,rfl⟩:=qb
 refine iF (· rfl) ?_
 refine iF (· rfl) ?_
 refine rld (B:=N4) rfl ?_
 refine rcall (zIl (m:=(g.n:Int)) (h1.up (w':=w8)) (by omega) hS λx hx=>h0 x hx) ?_
 rintro _ w9 ⟨rfl,e9⟩
 refine rcall (zCw (Y.up (w':=w9)) (by omega)) ?_
 rintro _ H ⟨⟨rfl,_⟩|⟨rfl,h4⟩,o5⟩
 case' inr=>exact absurd (λx hx=>(b8 x hx).1) h4
 refine rcall (zBV (g:=F.yo) (first:=[]) (cap:=[.pointer (some ⟨bN,0,none⟩)]) (p:=λx=>x.key.v≥(g.n:Int)) (Y.up (w':=H)) (by omega) λx u hx e=>zNw ((N4.mv (w:=H)).fr e nf)) ?_
 rintro _ o ⟨⟨rfl,d6⟩|⟨rfl,d6⟩,o6⟩
 case' inl=>exact absurd d6 (λ⟨y,hy,h⟩=>by have:=(b8 y hy).2;omega)
 refine rcall (zHV (h1.up (w':=o)) (by omega)) ?_
 rintro nv d7 ⟨On,h8,b9⟩
 have Z:=On.shape
 obtain⟨a6,a8,rfl⟩:=Z
 refine ral λbn h9 d8 d9=>?_
 have m0:=d8.b;have m2:=d8.s
 have o7:=h8.e.size
 refine rsto (B:=d9) (vs:=[.slice a6 S.length a8]) rfl rfl rfl (sv1 _ _ _) λe0 b3 f0 _=>?_
 have b3:Bk e0 bn [.slice a6 S.length a8] E.yh:=b3
 have i0:Stp d7 e0:=⟨Fr.st (Le.e (a:=d7) (b:=h9)) f0 λi hi=>by omega⟩
 refine ral λbs A f1 b4=>?_
 have m3:=f1.b;have m4:=f1.s
 have b4:Bk A bs [.slice none 0 0] E.qn:=b4
 have c0:StpI g q S [] o.heap.size bn bs A a6 a8 none 0:=⟨by simpa using b3.mv (w:=A),by simpa [sendsL] using b4,by simpa using On.up (w':=A),by simpa [sendsL] using Own.nil _ _ _⟩
 clear d9 f0 b3 b4
 have f3:∀b,Value.blk (.slice a6 S.length a8)=some b->b<A.heap.size:=λb z=>by
  have:=b9 b z;omega
 have hlt:bn<A.heap.size/\bs<A.heap.size:=⟨c0.now.lt,c0.sent.lt⟩
 have o8:=i0.e.size
 have o9:o.heap.size<=bn/\o.heap.size<=bs/\bn≠bs:=by omega
 have f5:=zK9 W
 have f6:=b0.length_eq
 rw [f5] at f6
 have i1:=Oo.shape
 obtain⟨oa,oc,rfl⟩:=i1
 have i2:=R.up (w':=o)
 have i3:=h3.up (w':=o)
 have b7:=RB.up (w':=o)
 have g0:=Bq.mv (w:=o)
 have g1:=Br.mv (w:=o)
 have g2:=Oo.up (w':=o)
 have i4:w.heap.size<=o.heap.size:=Le.size
 refine cnt1K TBok 77 [24,25,26,27,28] 18 77 ol.length (λk d v u=>v=.int .i64 0/\Mks A.heap.size u.heap.size d u/\(∃P Q T U V,P.Perm ((ol.take k).flatMap λp=>boxL W (freshL S M) p.toNat)/\StpI g q S P o.heap.size bn bs u Q T U V/\(∀b,Value.blk (.slice Q (S++P).length T)=some b->b<u.heap.size)/\∀b,Value.blk (.slice U (sendsL g q P).length V)=some b->b<u.heap.size)/\Stp o u/\A.heap.size<=u.heap.size) rfl rfl ⟨rfl,Mks.nil _ _ _ rfl,⟨[],a6,a8,none,0,.refl _,c0,λb z=>by have:=f3 b (by simpa using z);omega,λb z=>nomatch z⟩,stp,Nat.le_refl _⟩ ?_
 rintro k d v G u p0 ⟨rfl,K,⟨P,Q,T,U,V,hP,I,g3,g4⟩,su,zu⟩
 have p1:P.length<=(freshL S M).length:=by
  have h1:=(hP.append_right ((ol.drop k).flatMap λp=>boxL W (freshL S M) p.toNat)).length_eq
  rw [<-List.flatMap_append,List.take_append_drop,(zHh hW.1 b0).length_eq,List.length_append] at h1
  omega
 refine ite (λm5=>?_) (λp2=>?_)
 ·have c4:k<ol.length:=by omega
  have i5:ol[k]∈upTo W:=b0.mem_iff.1 (List.getElem_mem c4)
  have i6:=zPj i5
  obtain⟨p,hp,p3⟩:=i6
  have g5:p<MB.length:=by omega
  refine rix (g2.up (w':=u)).sl (x:=ol[k]) (by simp) λb1 o1 A1=>?_
  have i7:=A1.cell0 (v:=Value.int .i64 (p:Int)) (by rw [hp];rfl)
  refine rload1 i7 ?_
  refine drawR TBok mixed (λ_=>False) (upF 11 0) (by kernel_rfl) λu1 e1 _=>?_
  refine tldG (ds:=enc xq) (B:=g0) rfl rfl nf ?_
  refine tldG (ds:=enc (⟨⟨a4,g.n+1,a5⟩,rt,rr,rv⟩:RRow)) (B:=g1) rfl rfl nf ?_
  have p4:=zJL W (freshL S M) p
  have b5:=d5 p g5
  have SB:SlF u1 MB[p].v MB[p].l:=(b7.up (w':=u1)).rows _ (List.getElem_mem g5) |>.sl
  refine tix (i:=p) (b7.up (w':=u1)).top.sl (x:=MB[p]) (by simp) λb2 o2 A2 _=>tload1 (A2.cell0 rfl) nf ?_
  refine rcall (zJx SB (by rw [b5];omega) (i3.up (w':=u1))) ?_
  rintro lv u2 ⟨⟨L,c6,OL⟩,e2⟩
  refine⟨e2.e,?_⟩
  have ql:=OL.shape
  obtain⟨la,lc,rfl⟩:=ql
  refine tbuild (cs:=enc xq++enc (⟨⟨a4,g.n+1,a5⟩,rt,rr,rv⟩:RRow)++[.slice la L.length lc,.int .i64 0]) rfl ?_
  refine rbx λbw u3 c8 W3=>⟨c8.e,?_⟩
  refine rcall zEw ?_
  rintro _ C ⟨a0,rfl,n4,B4⟩
  have i8:=c6.length_eq
  have p5:L.length<=400:=by rw [i8,b5];omega
  have i9:∀x∈L,OkX g x:=λx hx=>d4 x (List.mem_filter.1 (b5 ▸ c6.mem_iff.1 hx)).1
  have p6:=Le.size (a:=u) (b:=u1)
  have p7:=Le.size (a:=u) (b:=u2)
  have j0:=Le.size (a:=u) (b:=C)
  have p8:=Le.size (a:=u2) (b:=C)
  have p9:=c8.b;have q0:=c8.s;have q3:=n4.b;have m6:=n4.s
  have D4:WrkD o xq (⟨⟨a4,g.n+1,a5⟩,rt,rr,rv⟩:RRow) L la lc a0 bw C:=⟨.of_ext (Le.e (a:=o) (b:=C)),B4,W3.mv (w:=C),OL.sl.up⟩
  have I4:=I.up (u':=C)
  have hX:∀i,wkX o.heap.size a0 bw (.slice la L.length lc) (L≠[]) i->i<o.heap.size\/(u.heap.size<=i/\i<C.heap.size):=λi hi=>by
   rcases hi with h|h|h|⟨h,h'⟩
   ·exact .inl h
   ·right;omega
   ·right;omega
   ·have Z:=OL.lt h
    obtain⟨g',g6,q4,q5⟩:=Z
    rw [h'] at g6;cases g6;right;omega
  have j1:StpI g q S (P++L.take ([]:List (List Value)).length) o.heap.size bn bs C Q T U V:=by simpa using I4
  refine rrangeG TBok rfl (gf:=F.qk) (first:=[]) (cap:=[.pointer (some ⟨a0,0,none⟩)]) (Rc:=λc u=>(∃D,Fr D c u)/\Kp (wkX o.heap.size a0 bw (.slice la L.length lc) (L≠[])) c u) rfl rfl (zPm hg i2 hk i9 (by omega)) wk_two (λu u' h=>⟨_,h⟩)
   (λys x=>∃Q T U V,ys.length<=L.length/\StpI g q S (P++L.take ys.length) o.heap.size bn bs x Q T U V/\WrkD o xq (⟨⟨a4,g.n+1,a5⟩,rt,rr,rv⟩:RRow) L la lc a0 bw x/\((∀b,Value.blk (.slice Q (S++(P++L.take ys.length)).length T)=some b->b<x.heap.size/\(b<u.heap.size\/C.heap.size<=b))/\∀b,Value.blk (.slice U (sendsL g q (P++L.take ys.length)).length V)=some b->b<x.heap.size/\(b<u.heap.size\/C.heap.size<=b))/\Mks A.heap.size C.heap.size d x/\Stp o x/\C.heap.size<=x.heap.size) (λ_ _=>False)
   ?_ ?_ ?_ ?_ ?_ (λc u h=>h.1) (λw' e=>D4.kp (.of_ext e)) ⟨Q,T,U,V,by simp,j1,D4,⟨λb z=>⟨by have:=g3 b (by simpa using z);omega,.inl (g3 b (by simpa using z))⟩,λb z=>⟨by have:=g4 b (by simpa using z);omega,.inl (g4 b (by simpa using z))⟩⟩,(K.fr (Le.e (a:=u) (b:=C))).lt j0,stp,Nat.le_refl _⟩ ?_ ?_ ?_
  ·rintro ys x x' ⟨Q,T,U,V,h1,Y,h3,O,h5,h6,h7⟩ qt
   have:=qt.size
   exact⟨Q,T,U,V,h1,Y.qt qt,h3.kp (.of_qt qt),⟨λb z=>⟨by have:=O.1 b z;omega,(O.1 b z).2⟩,λb z=>⟨by have:=O.2 b z;omega,(O.2 b z).2⟩⟩,h5.qt qt,h6.qt (qt.mono (by omega)),by omega⟩
  ·rintro _ x x' h;exact h.elim
  ·rintro ys x x' _ ⟨Q,T,U,V,h1,Y,h3,O,h5,h6,h7⟩ qe
   have:=qe.size
   have L2:Le x x':=⟨qe⟩
   exact⟨Q,T,U,V,h1,Y.up,h3.kp (.of_ext qe),⟨λb z=>⟨by have:=O.1 b z;omega,(O.1 b z).2⟩,λb z=>⟨by have:=O.2 b z;omega,(O.2 b z).2⟩⟩,h5.fr qe,⟨h6.e.t qe⟩,by omega⟩
  ·rintro _ x x' _ h;exact h.elim
  ·rintro x c x2 x3 q1 ⟨_,r⟩ q2;exact((Kp.of_qt q1).trans r).trans (.of_qt q2)
  ·rintro ys x x0 ⟨g7,vn,rfl,j2⟩ _ ⟨Q,T,U,V,h1,Y,h3,O,h5,h6,h7⟩
   refine ral λbx v1 m1 z1=>?_
   refine rsto (B:=z1) (vs:=enc L[ys.length]) rfl rfl rfl (Enc.one _) λv2 X2 f2 _=>?_
   have X2:Bk v2 bx (enc L[ys.length]) E.qf:=X2
   have s2:Stp x0 v2:=⟨Fr.st Le.e f2 λi hi=>by subst hi;exact m1.lo⟩
   refine⟨s2.e,λc1 qt=>?_⟩
   have q6:=s2.e.size
   have q8:=qt.size
   have X:=X2.qt qt
   have J:=(Y.up (u':=v2)).qt qt
   have D1:=(h3.kp (.of_ext s2.e)).kp (.of_qt qt)
   have j3:=(j2.up (w':=v2)).qt qt
   have M1:=(h5.fr s2.e).qt qt
   have r0:Stp o c1:=⟨(h6.e.t s2.e).qt (qt.mono (by omega))⟩
   have r1:(P++L.take ys.length).length<=800:=by rw [List.length_append,List.length_take];omega
   have j4:=zHR hg q (P++L.take ys.length)
   have r2:=zDo hg q L[ys.length]
   refine rld (B:=J.now) rfl ?_
   refine rldG (ds:=enc L[ys.length]) (B:=X) rfl rfl ?_
   refine rbs1 L[ys.length] rfl rfl (by decide) λb6 v6 e6 _ S6=>?_
   have z6:=Le.size (a:=c1) (b:=v6)
   refine rappE ⟨rfl,rfl⟩ (J.on.up (w':=v6)) S6 (by omega) (by rw [List.length_append];simp;omega) λv7 w7 O7 f7 j5=>?_
   have k2:=(J.now.mv (w:=v6)).fro (J.on.up (w':=v6)) f7 (by decide)
   have k3:=(J.sent.mv (w:=v6)).fro (J.on.up (w':=v6)) f7 (by decide)
   have k4:=(J.os.up (w':=v6)).fro (J.on.up (w':=v6)) f7 (by decide)
   have k5:=(j3.up (w':=v6)).fro (J.on.up (w':=v6)) f7 (by decide)
   have q7:=O7.shape
   obtain⟨a7,c7,rfl⟩:=q7
   have z7:=f7.size
   refine rsto (B:=k2) (vs:=[.slice a7 _ c7]) rfl rfl rfl (sv1 _ _ _) λw8 B8 f8 z8=>?_
   have k3:=k3.fr f8 (by omega)
   have k4:=k4.frc f8 k2 (by decide)
   have k5:=k5.frc f8 k2 (by decide)
   have O8:=O7.frc f8 k2 (by decide)
   refine rld (B:=k3) rfl ?_
   have j6:=k5.shape
   obtain⟨xa,xc,rfl⟩:=j6
   refine rappE ⟨rfl,rfl⟩ k4 k5.sl (by omega) (by omega) λv9 w9 O9 f9 j7=>?_
   have k6:=k3.fro k4 f9 (by decide)
   have B9:=B8.fro k4 f9 (by decide)
   have j8:=O8.fro k4 f9 (by decide)
   have q9:=O9.shape
   obtain⟨a9,c9,rfl⟩:=q9
   have z9:=f9.size
   refine rsto (B:=k6) (vs:=[.slice a9 _ c9]) rfl rfl rfl (sv1 _ _ _) λH j9 a1 r3=>?_
   have k0:=B9.fr a1 (by omega)
   have k1:=j8.frc a1 k6 (by decide)
   have k7:=O9.frc a1 k6 (by decide)
   have d0:(ys++[[agg L[ys.length],Value.slice xa (nextL g q L[ys.length]).length xc]]).length=ys.length+1:=by simp
   have g8:P++L.take (ys.length+1)=P++L.take ys.length++[L[ys.length]]:=by rw [take_add g7,List.append_assoc]
   have d1:sendsL g q (P++L.take (ys.length+1))=sendsL g q (P++L.take ys.length)++nextL g q L[ys.length]:=by rw [g8];unfold sendsL;rw [List.flatMap_append];simp
   have d2:S++(P++L.take (ys.length+1))=S++(P++L.take ys.length)++[L[ys.length]]:=by rw [g8];simp only [List.append_assoc]
   have J2:StpI g q S (P++L.take (ys.length+1)) o.heap.size bn bs H a7 c7 a9 c9:=by
    refine⟨?_,?_,?_,?_⟩
    ·rw [d2];exact k0
    ·rw [d1];exact j9
    ·rw [d2];exact k1
    ·rw [d1];exact k7
   have zz:C.heap.size<=c1.heap.size:=by omega
   have k8:∀i,ownD o.heap.size (.slice Q (S++(P++L.take ys.length)).length T) i->o.heap.size<=i/\(i<u.heap.size\/C.heap.size<=i):=λi hi=>⟨hi.1,(O.1 i hi.2.1).2⟩
   have k9:∀i,ownD o.heap.size (.slice U (sendsL g q (P++L.take ys.length)).length V) i->o.heap.size<=i/\(i<u.heap.size\/C.heap.size<=i):=λi hi=>⟨hi.1,(O.2 i hi.2.1).2⟩
   have kp:Kp (wkX o.heap.size a0 bw (.slice la L.length lc) (L≠[])) c1 H:=((((Kp.of_ext e6.e).trans (.of_fr f7 λi hi hd=>by have:=hX i hi;have:=k8 i hd;omega)).trans (.of_fr f8 λi hi hd=>by have:=hX i hi;omega)).trans (.of_fr f9 λi hi hd=>by have:=hX i hi;have:=k9 i hd;omega)).trans (.of_fr a1 λi hi hd=>by have:=hX i hi;omega)
   have l0:Stp o H:=⟨Fr.st (Fr.st (Fr.st (Fr.st (Le.e (a:=o) (b:=v6)) f7 λi hi=>hi.1) f8 λi hi=>by omega) f9 λi hi=>hi.1) a1 λi hi=>by omega⟩
   have fr:Fr (λ_=>True) c1 H:=((((Fr.fr e6.e).trans (Fr.mono f7 λ_ _ _=>trivial)).trans (Fr.mono f8 λ_ _ _=>trivial)).trans (Fr.mono f9 λ_ _ _=>trivial)).trans (Fr.mono a1 λ_ _ _=>trivial)
   have l1:∀b,Value.blk (.slice a7 (S++(P++L.take (ys.length+1))).length c7)=some b->b<H.heap.size/\(b<u.heap.size\/C.heap.size<=b):=λb z=>by
    rw [d2] at z
    rcases j5 with h|⟨h,h'⟩
    ·have:=O.1 b (h.symm.trans z);omega
    ·have:=h.symm.trans z;cases this;omega
   have l2:∀b,Value.blk (.slice a9 (sendsL g q (P++L.take (ys.length+1))).length c9)=some b->b<H.heap.size/\(b<u.heap.size\/C.heap.size<=b):=λb z=>by
    rw [d1] at z
    rcases j7 with h|⟨h,h'⟩
    ·have:=O.2 b (h.symm.trans z);omega
    ·have:=h.symm.trans z;cases this;omega
   have l3:Mks A.heap.size C.heap.size d H:=M1.fr fr
   exact⟨⟨a7,c7,a9,c9,by rw [d0];omega,by rw [d0];exact J2,D1.kp kp,by rw [d0];exact⟨l1,l2⟩,l3,l0,by omega⟩,⟨_,fr⟩,kp⟩
  ·rintro ys D u6 hE ⟨Q,T,U,V,h1,Y,h3,O,h5,h6,h7⟩ hD hd
   rw [hE,List.take_length] at Y O
   refine rld (B:=h3.w) rfl ?_
   refine iF (· rfl) ?_
   have K6:=h5.add (D:=D) (by omega) hD hd
   have l4:(P++L).Perm ((ol.take (k+1)).flatMap λp=>boxL W (freshL S M) p.toNat):=by
    rw [take_add c4,List.flatMap_append]
    refine List.Perm.append hP ?_
    simp only [List.flatMap_cons,List.flatMap_nil,List.append_nil]
    rw [hp,Int.toNat_natCast,<-b5]
    exact c6
   refine rA ⟨rfl,c4,rfl,K6,⟨P++L,Q,T,U,V,l4,Y,λb z=>(O.1 b z).1,λb z=>(O.2 b z).1⟩,h6,by omega⟩
  ·rintro c D x h;exact h.elim
 ·have Z:k=ol.length:=by omega
  obtain rfl:=Z
  rw [List.take_length] at hP
  have l5:=hP.trans (zHh hW.1 b0)
  have j4:=zHR hg q P
  refine iF (· rfl) ?_
  refine rld (B:=I.now) rfl ?_
  refine rcall (zCT Tryz.sortS (k:=4) (show Agg PP E.qf 4 from inferInstance) rfl cfM zMb (f:=F.qh) rfl (λx y W=>zNx) I.on (by rw [List.length_append];omega)) ?_
  rintro _ u2 ⟨rfl,N,hN,l6,ON,f2⟩
  have g9:=hN.length_eq
  rw [List.length_append] at g9
  have l7:=zP9 (q:=q) (g:=g) hS l5 hN (l6.imp λh hl=>h ((zFU _ _).2 hl))
  obtain⟨l8,l9⟩:=l7
  have B2:=I.now.fro I.on f2 (by decide)
  have C2:=I.sent.fro I.on f2 (by decide)
  have O2:=I.os.fro I.on f2 (by decide)
  have K2:=K.fr f2
  have s2:Stp o u2:=⟨Fr.st su.e f2 λi hi=>hi.1⟩
  have m7:(S++P).length=N.length:=by rw [List.length_append,g9]
  refine drawR TBok mixed (λ_=>False) (upF 7 0) (by kernel_rfl) λu3 e3 _=>?_
  refine tld (B:=B2) rfl nf (tld (B:=B2) rfl nf (tld (B:=C2) rfl nf ?_))
  refine rcall (zDS (ON.sl.up (w':=u3)) (O2.sl.up (w':=u3)) (by omega) (by omega)) ?_
  rintro fv C ⟨OF,e4⟩
  refine⟨e4.e,?_⟩
  have z2:=f2.size
  have z3:=e3.e.size
  have K4:=(K2.fr e3.e).fr e4.e
  have fin:∀u',Qt A.heap.size C u'->(∃v1 v2,Value.tuple #[.slice Q (S++P).length T,fv,.int .i64 0]=.tuple #[v1,v2,.int .i64 0]/\Own w.heap.size E.qf u' v1 (stepL g q S M).1/\Own w.heap.size E.qc u' v2 (stepL g q S M).2)/\Stp w u':=λu' qt=>by
   have r4:o.heap.size<=A.heap.size:=by omega
   refine⟨⟨_,_,rfl,?_,?_⟩,⟨(Le.e (a:=w) (b:=C)).qt (qt.mono (by omega))⟩⟩
   ·rw [<-l8];exact((ON.up (w':=C)).qt qt).mono i4
   ·rw [<-l9];exact(OF.qt qt).mono (by omega)
  exact zN5 rfl K4 fin
theorem zDr{c:Nat}{L:List StD}{bl bs:Nat}{dir v slot:Int}{w:World}(D:B<=w.heap.size)(K:Bk w bl [.slice a n c] E.qn)(O:Own B E.qc w (.slice a n c) L)(S:Bk w bs [.int .i64 slot] E.qb)(G:L.length<=1000):
  Sp PP F.cd #[.int .i64 dir,.int .i64 v,.pointer (some ⟨bl,0,none⟩),.pointer (some ⟨bs,0,none⟩)] w λ_ w'=>(∃o p r,Bk w' bl [.slice o p r] E.qn/\Own B E.qc w' (.slice o p r) (L++[⟨⟨slot,dir,v⟩,0⟩]))/\Bk w' bs [.int .i64 slot] E.qb/\Fr (λi=>i=bl\/B<=i) w w':=by
 refine eN ?_;refine rX K rfl (rX S rfl ?_);refine rbuild (cs:=enc (⟨slot,dir,v⟩:KeyD)) rfl (rbuild (cs:=enc (⟨⟨slot,dir,v⟩,0⟩:StD)) rfl (rbs1 (⟨⟨slot,dir,v⟩,0⟩:StD) rfl rfl (by decide) λH w1 n1 _ z=>?_));have z1:=lz w w1;refine rappB ⟨rfl,rfl⟩ (O.up (w':=w1)) z (by omega) (by simp;omega) λI w2 t b=>?_;have d:=(K.mv (w:=w1)).fro (O.up (w':=w1)) b (by decide);have x:=(S.mv (w:=w1)).fro (O.up (w':=w1)) b (by decide);have q2:=t.shape;obtain⟨a2,c2,rfl⟩:=q2;refine rS d [.slice a2 _ c2] (sv1 _ _ _) λJ A f=>?_
 have l:bs≠bl:=by
  rintro rfl;have C:=d.h;have y:=x.h;rw [C] at y;cases y
 exact⟨⟨a2,_,c2,A,t.frc f d (by decide)⟩,x.fr f l,((Fr.fr n1.e).trans (b.mono λi _ hi=>.inr hi.1)).trans (f.mono λi _ hi=>.inl hi)⟩
theorem zEp{slot:Int}:mls g q slot 0=(src q 0).map (λv:Nat=>(⟨⟨slot,0,v⟩,0⟩:StD))++(src q 1).map (λv:Nat=>(⟨⟨slot,1,v⟩,0⟩:StD)):=rfl
theorem zJm{xq:RQ}{slot:Int}{w:World}(N:xq.kind=q.kind/\xq.frm=q.frm/\xq.to=q.to)(A:QyOk q g.n):
  Sp PP F.c4 #[agg xq,.int .i64 slot] w λv w'=>Own w.heap.size E.qc w' v (mls g q slot 0)/\Stp w w':=by
 obtain⟨O,t,C⟩:=N;have f:=A.frm;have D:=A.kind;have x:src q 0=[q.frm.toNat]:=rfl;refine eN ?_;refine rbx λbq w1 n1 y=>rbx λbs w2 n2 Q=>ral λbl h n3 G=>?_;have G:Bk h bl [.slice none 0 0] E.qn:=G;have R:=n1.b;have d:=n1.s;have S:=n2.b;have T:=n2.s;have U:=n3.b;have V:=n3.s;refine rX y rfl ?_;have H:=zDr (L:=[]) (dir:=0) (v:=xq.frm) (B:=h.heap.size) (Qe _) G (Own.nil _ _ _) (Q.mv (w:=h)) (by simp);refine ite (λW=>?_) (λW=>?_)
 ·refine rX y rfl (rcall H ?_);rintro _ c ⟨⟨o,p,c4,z,l⟩,I,r⟩;have s4:Stp w2 c:=⟨Fr.st (lE w2 h) r λi hi=>by omega⟩;refine rX y rfl ?_;have z4:=r.size;refine rcall (zDr (dir:=1) (v:=xq.to) z4 z l I (by simp)) ?_;rintro _ w5 ⟨⟨a5,n5,c5,X,K⟩,S5,Y⟩;refine rX X rfl ?_;have J:=A.to (by omega);have d:src q 1=[q.to.toNat]:=by unfold src;rw [if_neg (by decide),if_pos (by omega)]
  have e:([]:List StD)++[⟨⟨slot,0,xq.frm⟩,0⟩]++[⟨⟨slot,1,xq.to⟩,0⟩]=mls g q slot 0:=by
   rw [zEp,x,d,t,C];simp only [QS,JP,Je,VO];rw [Jh f.1,Jh J.1]
  rw [e] at K;exact⟨K.mono (by omega),⟨Fr.st (lE w c) Y λi hi=>by omega⟩⟩
 ·have fin:∀(c:World) (o:Option Addr) (p c4:Nat),Own h.heap.size E.qc c (.slice o p c4) (([]:List StD)++[⟨⟨slot,0,xq.frm⟩,0⟩])->Own w.heap.size E.qc c (.slice o p c4) (mls g q slot 0):=λc o p c4 l=>by
   have d:src q 1=[]:=by unfold src;rw [if_neg (by decide),if_neg (by omega)]
   have e:([]:List StD)++[⟨⟨slot,0,xq.frm⟩,0⟩]=mls g q slot 0:=by
    rw [zEp,x,d,t];simp only [QS,JP,Je,QE];rw [Jh f.1]
   rw [<-e];exact l.mono (by omega)
  refine ite (λZ=>?_) (λZ=>?_)
  ·refine rX y rfl (rcall H ?_);rintro _ c ⟨⟨o,p,c4,z,l⟩,I,r⟩;refine rX z rfl ?_;exact⟨fin c _ _ _ l,⟨Fr.st (lE w h) r λi hi=>by omega⟩⟩
  ·refine ite (λM=>?_) (λM=>absurd M (by omega));refine rX y rfl (rcall H ?_);rintro _ c ⟨⟨o,p,c4,z,l⟩,I,r⟩;refine rX z rfl ?_;exact⟨fin c _ _ _ l,⟨Fr.st (lE w h) r λi hi=>by omega⟩⟩
theorem zAr{v n:Int}{b:Nat}{w:World}(K:Bk w b [.int .i64 n] E.qb):Sp PP F.cf #[.int .i64 v,.pointer (some ⟨b,0,none⟩)] w λr w'=>Tells (0<=v/\v<n) r/\w'=w:=by
 refine eN ?_;refine ite (λc=>?_) (λc=>⟨.f λh=>c h.1,rfl⟩);refine rX K rfl ?_;exact ite (λd=>⟨.t ⟨c,d⟩,rfl⟩) (λd=>⟨.f λh=>d h.2,rfl⟩)
theorem zHD{s:ByteArray}{w:World}(b:s.size<=1000000):Sp PP F.yq #[.string s] w λv w'=>Tells (¬WordB s) v/\Stp w w':=by
 refine eN ?_;refine rcall (zEO b) ?_;rintro _ w1 ⟨⟨rfl,h⟩|⟨rfl,h⟩,d⟩
 ·exact⟨.f λc=>c h,stp⟩
 ·exact⟨.t h,stp⟩
theorem zES{xq:RQ}{n:Int}{w:World}(V:QyV w xq q)(R:q.words.length<=1000000)(S:∀s∈q.words,s.size<=1000000):
  Sp PP F.c7 #[agg xq,.int .i64 n] w λv w'=>((QyIs q n/\v=.int .i64 0)\/(¬QyIs q n/\v=.int .i64 180))/\Stp w w':=by
 obtain⟨I,J,K,L,M,N⟩:=V;obtain⟨x1,x2,x3,⟨O,T,Q⟩,x4,x5⟩:=xq;simp only at I J K M N;subst I J K M N;have D:T=q.words.length:=L.len;subst D;have A:agg (⟨q.kind,q.frm,q.to,⟨O,q.words.length,Q⟩,q.rad,q.most⟩:RQ)=.agg #[.int .i64 q.kind,.int .i64 q.frm,.int .i64 q.to,.slice O q.words.length Q,.int .i64 q.rad,.int .i64 q.most]:=rfl;rw [A];refine eN ?_;refine rbx λbq w1 n1 c=>rbx λbn w2 n2 o=>?_;have d:¬QyIs q n->∀u:World,Stp w u->((QyIs q n/\Value.int .i64 180=.int .i64 0)\/(¬QyIs q n/\Value.int .i64 180=.int .i64 180))/\Stp w u:=λh u s=>⟨.inr ⟨h,rfl⟩,s⟩;have t:QyIs q n->∀u:World,Stp w u->((QyIs q n/\Value.int .i64 0=.int .i64 0)\/(¬QyIs q n/\Value.int .i64 0=.int .i64 180))/\Stp w u:=λh u s=>⟨.inl ⟨h,rfl⟩,s⟩;refine rX c rfl (ite (λU=>?_) (λU=>?_))
 ·refine rX c rfl (rcall (zAr (o.mv (w:=w2))) ?_);rintro _ _ ⟨⟨rfl,e⟩|⟨rfl,e⟩,rfl⟩
  case' inr=>exact d (λh=>e h.2.1) _ stp
  refine rX c rfl (rcall (zAr (o.mv (w:=_))) ?_);rintro _ _ ⟨⟨rfl,f⟩|⟨rfl,f⟩,rfl⟩
  ·exact t ⟨by omega,e,λ_=>f,λh=>absurd h (by omega)⟩ _ stp
  ·exact d (λh=>f (h.2.2.1 (by omega))) _ stp
 refine ite (λW=>?_) (λW=>?_)
 ·refine rX c rfl (rcall (zAr (o.mv (w:=w2))) ?_);rintro _ _ ⟨⟨rfl,e⟩|⟨rfl,e⟩,rfl⟩
  case' inr=>exact d (λh=>e h.2.1) _ stp
  refine rX c rfl (rcall (zAr (o.mv (w:=_))) ?_);rintro _ _ ⟨⟨rfl,f⟩|⟨rfl,f⟩,rfl⟩
  ·exact t ⟨by omega,e,λ_=>f,λh=>absurd h (by omega)⟩ _ stp
  ·exact d (λh=>f (h.2.2.1 (by omega))) _ stp
 refine ite (λl=>?_) (λl=>d (λh=>by have:=h.1;omega) _ stp);refine rX c rfl (ite (λX=>?_) (λX=>?_))
 case' refine_2 =>
  have b:¬QyIs q n:=λh=>by have:=(h.2.2.2 l).1;omega
  refine rX c rfl (rcall (zAr (o.mv (w:=_))) ?_);rintro _ _ ⟨⟨rfl,e⟩|⟨rfl,e⟩,rfl⟩
  ·exact d b _ stp
  ·exact d b _ stp
 refine rX c rfl (ite (λe=>?_) (λe=>?_))
 case' refine_2 =>
  have b:¬QyIs q n:=λh=>by have:=(h.2.2.2 l).1;omega
  refine rX c rfl (rcall (zAr (o.mv (w:=_))) ?_);rintro _ _ ⟨⟨rfl,e⟩|⟨rfl,e⟩,rfl⟩
  ·exact d b _ stp
  ·exact d b _ stp
 refine rX c rfl (rcall (zBA (g:=F.yq) (first:=[]) (cap:=[]) (p:=λs=>¬WordB s) (L.up (w':=w2)) R (λr u1 Y _=>zHD (S r Y))) ?_);rintro _ Z ⟨⟨rfl,f⟩|⟨rfl,f⟩,e3⟩
 ·have b:¬QyIs q n:=λh=>by
   obtain⟨y,hy,C⟩:=f;exact C ((h.2.2.2 l).2.2.2 y hy)
  refine rX c rfl (rcall (zAr (o.mv (w:=_))) ?_);rintro _ _ ⟨⟨rfl,e⟩|⟨rfl,e⟩,rfl⟩
  ·exact d b _ stp
  ·exact d b _ stp
 have E:∀s∈q.words,WordB s:=λs h=>Classical.byContradiction λhn=>f ⟨s,h,hn⟩;refine rX c rfl (rcall (zAr (o.mv (w:=Z))) ?_);rintro _ _ ⟨⟨rfl,C⟩|⟨rfl,C⟩,rfl⟩
 case' inr=>exact d (λh=>C h.2.1) _ stp
 refine rX c rfl (ite (λG=>?_) (λG=>d (λh=>G (h.2.2.2 l).2.1.1) _ stp));refine rX c rfl (ite (λH=>?_) (λH=>d (λh=>H (h.2.2.2 l).2.1.2) _ stp));refine rX c rfl (ite (λx=>?_) (λx=>d (λh=>x (h.2.2.2 l).2.2.1.1) _ stp));refine rX c rfl (ite (λz=>?_) (λz=>d (λh=>z (h.2.2.2 l).2.2.1.2) _ stp));exact t ⟨.inr (.inr l),C,λh=>absurd h (by omega),λ_=>⟨by omega,⟨G,H⟩,⟨x,z⟩,E⟩⟩ _ stp
abbrev FrB (w:World) (b:Nat) (s:List UInt8) (A:Nat):Prop:=Bk w b [txt s,.int .i64 (A:Int)] E.q3
theorem zBP{A b:Nat}{w:World}(B:FrB w b s A)(l:s.length<=4611686018427387904):
  SpP PP F.qu #[.pointer (some ⟨b,0,none⟩)] w (λv w'=>∃n h:Nat,RdsV rdN s A n h/\v=.int .i64 (n:Int)/\FrB w' b s h/\Fr (λi=>i=b) w w')
   (λc w'=>c=PanF/\rdN (s.drop A)=none/\Fr (λi=>i=b) w w'):=
 (zDA B l).mono (λv w' ⟨n,d,e,f,o⟩=>⟨n,_,rdn_of d,e,f,o⟩) (λc w' ⟨d,e,f⟩=>⟨d,rdn_no e,f⟩)
theorem zHm{A b:Nat}{w:World}(B:FrB w b s A)(p:s.length<=4611686018427387904):
  SpP PP F.z6 #[.pointer (some ⟨b,0,none⟩),.int .i64 (m:Int)] w (λv w'=>∃n e:Nat,RdsV rdN s A n e/\n<=m/\v=.int .i64 (n:Int)/\FrB w' b s e/\Fr (λi=>i=b) w w')
   (λc w'=>c=PanF/\(∀n t,rdN (s.drop A)=some (n,t)->¬n<=m)/\Fr (λi=>i=b) w w'):=by
 refine enP TBok rfl ?_;refine rcallP (zBP B p) ?_ ?_
 ·rintro _ r ⟨n,e,d,rfl,x,f⟩;refine ite (λh=>?_) (λh=>?_)
  ·refine rcallP zAh ?_ ?_
   ·rintro _ y ⟨_,rfl,rfl⟩;exact⟨n,e,d,by omega,rfl,x,f⟩
   ·rintro _ z ⟨h,_⟩;cases h
  ·refine rcallP zAh ?_ ?_
   ·rintro _ z ⟨h,_⟩;cases h
   ·rintro _ y ⟨_,rfl,rfl⟩;refine⟨rfl,λk t o=>?_,f⟩;rw [d.2] at o;cases o;omega
 ·rintro _ r ⟨rfl,l,f⟩;exact⟨rfl,(λn t d=>by rw [l] at d;cases d),f⟩
theorem zHn{A b:Nat}{w:World}(B:FrB w b s A)(p:s.length<=4611686018427387904):
  SpP PP F.z7 #[.pointer (some ⟨b,0,none⟩)] w (λv w'=>∃x f,RdsV rdT s A x f/\v=txt x/\FrB w' b s f/\Fr (λi=>i=b) w w')
   (λc w'=>c=PanF/\rdT (s.drop A)=none/\Fr (λi=>i=b) w w'):=by
 refine enP TBok rfl ?_;refine dQ 16 λC D=>tX B rfl nf (tX B rfl nf (rcall (zDa (A:=A) p) ?_));rintro v E ⟨⟨x,f,r,rfl⟩|⟨l,rfl⟩,o⟩
 ·refine⟨o.e,?_⟩;refine rcallP zAh ?_ ?_
  ·rintro _ d ⟨_,rfl,rfl⟩;have t:=B.mv (w:=d);refine rS t [.int .i64 _] (int_o _) λG y z=>?_;exact⟨x,f,r,rfl,y,(fE w d).trans z⟩
  ·rintro _ d ⟨h,_⟩;cases h
 ·refine⟨o.e,?_⟩;refine rcallP zAh ?_ ?_
  ·rintro _ d ⟨h,_⟩;cases h
  ·rintro _ d ⟨_,rfl,rfl⟩;exact⟨rfl,l,fE w d⟩
theorem panR'{b:List ResultVar}{F:Nat->Value}{c:List PanicEntry}{R:Value->World->Prop}{pn:List PanicEntry->World->Prop}{w:World}{d:Value}(h0:F 4294967296=d)(hd:decD d=[])(h:pn c w):panS P b R pn F c w:=by
 unfold panS;rw [h0,hd];exact h
theorem zPS{r:List UInt8}(h:rdN r=none):rdQ k r=none:=by unfold rdQ;rw [h]
theorem rdQ_2{a:Nat}{r c:List UInt8}(h:rdN r=some (a,c))(d:k<=2):rdQ k r=match rdN c with
  |none=>none
  |some (b,e)=>some (⟨k,a,b,[],0,0⟩,e):=by unfold rdQ;rw [h];simp only;rw [if_pos d];rfl
theorem rdQ_3{a:Nat}{r b:List UInt8}(h:rdN r=some (a,b))(c:¬k<=2):rdQ k r=match rdWs b with
  |none=>none
  |some (d,e)=>match rdN e with
   |none=>none
   |some (x,f)=>match rdN f with
    |none=>none
    |some (y,l)=>some (⟨k,a,0,d.map bsOf,x,y⟩,l):=by unfold rdQ;rw [h];simp only;rw [if_neg c];rfl
def QyO (B:Nat) (w:World) (x:RQ) (q:QyD):Prop:=x.kind=q.kind/\x.frm=q.frm/\x.to=q.to/\Own B E.qg w x.words.v q.words/\x.rad=q.rad/\x.most=q.most
abbrev QrT (s:List UInt8) (A b kind:Nat) (w:World) (v:Value) (w':World):Prop:=∃q A' x,RdsV (rdQ kind) s A q A'/\v=agg x/\QyO w.heap.size w' x q/\FrB w' b s A'/\Fr (λi=>i=b) w w'
theorem zLl{A b kind:Nat}{w:World}(B:FrB w b s A)(hs:s.length<=4611686018427387904):
  SpP PP F.zw #[.pointer (some ⟨b,0,none⟩),.int .i64 (kind:Int)] w (λv w'=>QrT s A b kind w v w')
   (λc w'=>c=PanF/\rdQ kind (s.drop A)=none/\Fr (λi=>i=b) w w'):=by
 have b8:=B.lt
 refine enP TBok rfl ?_
 refine ral λbr w1 n1 R1=>?_
 have b9:=n1.b;have c0:=n1.s
 refine rcallP (zBP (B.mv (w:=w1)) hs) ?_ ?_
 case' refine_2 =>
  rintro _ w2 ⟨rfl,r,f2⟩
  exact⟨rfl,zPS r,(Fr.fr n1.e).trans f2⟩
 rintro _ w2 ⟨a,A2,b0,rfl,B2,f2⟩
 have R2:=R1.fr f2 (by omega)
 have z2:=f2.size
 refine rbuild (cs:=[.int .i64 (kind:Int),.int .i64 (a:Int),.int .i64 0,.slice none 0 0,.int .i64 0,.int .i64 0]) rfl ?_
 refine ral λbq w3 n3 Q3=>?_
 have c1:=n3.b;have c2:=n3.s
 refine rsto (B:=Q3) (vs:=[.int .i64 (kind:Int),.int .i64 (a:Int),.int .i64 0,.slice none 0 0,.int .i64 0,.int .i64 0]) rfl rfl rfl (by intro u J;simp at J;rcases J with rfl|rfl|rfl|rfl|rfl|rfl <;> rfl) λw4 Q4 f4 _=>?_
 have Q4:Bk w4 bq [.int .i64 (kind:Int),.int .i64 (a:Int),.int .i64 0,.slice none 0 0,.int .i64 0,.int .i64 0] E.qr:=Q4
 have lq:=Q4.lt
 have c3:=f4.size
 have K:¬br=bq:=by omega
 have L:¬b=bq:=by omega
 have R4:=(R2.mv (w:=w3)).fr f4 K
 have B4:FrB w4 b s A2:=(B2.mv (w:=w3)).fr f4 L
 have F4:Fr (λi=>i=b) w w4:=Fr.st' ((((Fr.fr n1.e).trans f2).trans (Fr.fr n3.e))) f4 λi hi=>by omega
 have c4:=R1.lt
 refine ite (λh1=>?_) (λh1=>?_)
 ·have a0:kind<=2:=by omega
  have e2:=rdQ_2 b0.2 a0
  refine rcallP (zBP B4 hs) ?_ ?_
  case' refine_2 =>
   rintro _ w5 ⟨rfl,r,S⟩
   exact⟨rfl,by rw [e2,r],F4.trans S⟩
  rintro _ w5 ⟨c5,W,T,rfl,B5,S⟩
  refine rsto (B:=Q4.fr S (by omega)) (vs:=[.int .i64 (c5:Int)]) rfl rfl rfl (int_o _) λw6 M l _=>?_
  have M:Bk w6 bq [.int .i64 (kind:Int),.int .i64 (a:Int),.int .i64 (c5:Int),.slice none 0 0,.int .i64 0,.int .i64 0] E.qr:=M
  refine rldG (ds:=[.int .i64 (kind:Int),.int .i64 (a:Int),.int .i64 (c5:Int),.slice none 0 0,.int .i64 0,.int .i64 0]) (B:=M) rfl rfl ?_
  have R6:=(R4.fr S (by omega)).fr l K
  refine rsto (B:=R6) (vs:=[.int .i64 (kind:Int),.int .i64 (a:Int),.int .i64 (c5:Int),.slice none 0 0,.int .i64 0,.int .i64 0]) rfl rfl rfl (by intro u J;simp at J;rcases J with rfl|rfl|rfl|rfl|rfl|rfl <;> rfl) λw7 R7 f7 _=>?_
  have R7:Bk w7 br [.int .i64 (kind:Int),.int .i64 (a:Int),.int .i64 (c5:Int),.slice none 0 0,.int .i64 0,.int .i64 0] E.qr:=R7
  have B7:FrB w7 b s W:=(B5.fr l L).fr f7 (by omega)
  have F7:Fr (λi=>i=b) w w7:=Fr.st' (Fr.st' (F4.trans S) l λi hi=>by omega) f7 λi hi=>by omega
  refine rresG (B:=R7) rfl ?_
  exact⟨⟨kind,a,c5,[],0,0⟩,W,⟨kind,a,c5,⟨none,0,0⟩,0,0⟩,⟨T.1,by rw [e2,T.2]⟩,rfl,⟨rfl,rfl,rfl,Own.nil _ _ _,rfl,rfl⟩,B7,F7⟩
 ·have a0:¬kind<=2:=by omega
  have e3:=rdQ_3 b0.2 a0
  refine rcallP (zHm (m:=8) B4 hs) ?_ ?_
  case' refine_2 =>
   rintro _ w5 ⟨rfl,r,S⟩
   refine⟨rfl,?_,F4.trans S⟩
   have:rdWs (s.drop A2)=none:=by
    unfold rdWs
    cases h:rdN (s.drop A2) with
    |none=>rfl
    |some p=>obtain⟨n,t⟩:=p;simp only;rw [if_neg (r n t h)]
   rw [e3,this]
  rintro _ w5 ⟨N,W,T,hN,rfl,B5,S⟩
  have ew:rdWs (s.drop A2)=rdMany rdT N (s.drop W):=by unfold rdWs;rw [T.2];simp only;rw [if_pos hN]
  have c6:=B.lt
  have Q5:=Q4.fr S (by omega)
  have R5:Bk w5 br (Value.cells (.agg #[.int .i64 0,.int .i64 0,.int .i64 0,.slice none 0 0,.int .i64 0,.int .i64 0])).toList E.qr:=R4.fr S (by omega)
  have z5:=S.size
  have h5:W<=s.length:=T.1
  refine cnt TBok 18 [] 18 N (λk u=>∃(Ak:Nat) (d:List (List UInt8)) (X:Option Addr) (Y:Nat),d.length=k/\preR d (rdMany rdT (N - k) (s.drop Ak))=rdMany rdT N (s.drop W)/\Ak<=s.length/\FrB u b s Ak/\Bk u bq [.int .i64 (kind:Int),.int .i64 (a:Int),.int .i64 0,.slice X (d.map bsOf).length Y,.int .i64 0,.int .i64 0] E.qr/\Own w5.heap.size E.qg u (.slice X (d.map bsOf).length Y) (d.map bsOf)/\Bk u br (Value.cells (.agg #[.int .i64 0,.int .i64 0,.int .i64 0,.slice none 0 0,.int .i64 0,.int .i64 0])).toList E.qr/\Fr (λi=>i=b) w u/\w5.heap.size<=u.heap.size) rfl rfl
   ⟨W,[],none,0,rfl,by rw [zBL];simp,h5,B5,by simpa using Q5,by simpa using Own.nil _ _ _,R5,F4.trans S,Nat.le_refl _⟩ ?_
  rintro k G u hk ⟨Ak,d,X,Y,a1,C,c7,Bu,Qu,Ou,Ru,Fu,zu⟩
  refine ite (λhlt=>?_) (λc9=>?_)
  ·have a4:k<N:=by omega
   have e0:N - k=(N - (k+1))+1:=by omega
   rw [e0] at C
   have b3:=Qu.lt
   refine drawRT TBok mixed (λ_=>True) (.one 0 (.one 2 (.duo 1 (.one 3 (.one 4 (.one 5 (.one 6 (.one 7 .nil))))) 3 (.duo 1 (.one 4 (.one 5 (.one 6 (.one 7 .nil)))) 4 (.lone 1 (.one 5 (.one 6 (.one 7 .nil)))))))) (by kernel_rfl) λZ e1 _=>?_
   have BX:FrB Z b s Ak:=Bk.mv (w:=Z) Bu
   have EX:=e1.e
   refine⟨?_,?_⟩
   ·refine rld (B:=Qu) rfl ⟨Fr.refl _ _,?_⟩
    refine rcallP (zHn (A:=Ak) BX hs) ?_ ?_
    case' refine_2 =>
     rintro _ O ⟨rfl,r,l⟩
     have a5:rdWs (s.drop A2)=none:=by
      rw [ew,<-C,zA4 r];rfl
     have o:PanF=PanF/\rdQ kind (s.drop A)=none/\Fr (λi=>i=b) w O:=⟨rfl,by rw [e3,a5],(Fu.trans (Fr.fr EX)).trans l⟩
     intro F' ag
     show panS PP _ _ (λc w'=>c=PanF/\rdQ kind (s.drop A)=none/\Fr (λi=>i=b) w w') F' PanF O
     exact panR' (ag 4294967296 rfl) rfl o
    rintro _ O ⟨x,Q,hr,rfl,B6,l⟩
    refine⟨Fr.mono l λ_ _ _=>trivial,?_⟩
    have M:=(Bk.mv (w:=Z) Qu).fr l (by omega)
    have R6:=(Bk.mv (w:=Z) Ru).fr l (by omega)
    have I:=(Own.up (w':=Z) Ou).frc l BX (by decide)
    have z6:=l.size
    have z1:=Le.size (a:=u) (b:=Z)
    refine rbs1 (bsOf x) rfl rfl (by decide) λb7 f H _ S7=>⟨Fr.fr H.e,?_⟩
    have Q7:=M.mv (w:=f)
    have z7:=Le.size (a:=O) (b:=f)
    refine rappB ⟨rfl,rfl⟩ (I.up (w':=f)) S7 (by omega) (by simp;omega) λv8 u8 R z=>⟨Fr.mono z λ_ _ _=>trivial,?_⟩
    have U:=Q7.fro (I.up (w':=f)) z (by decide)
    have R8:=(R6.mv (w:=f)).fro (I.up (w':=f)) z (by decide)
    have B8:FrB u8 b s Q:=(Bk.mv (w:=f) B6).fro (I.up (w':=f)) z (by decide)
    have z8:=z.size
    have em:(d.map bsOf)++[bsOf x]=(d++[x]).map bsOf:=by rw [List.map_append];rfl
    rw [em] at R
    have q8:=R.shape
    obtain⟨a8,c8,rfl⟩:=q8
    refine rsto (B:=U) (vs:=[.slice a8 ((d++[x]).map bsOf).length c8]) rfl rfl rfl (by intro u J;simp at J;subst J;rfl) λu9 Q9 D _=>⟨Fr.mono D λ_ _ _=>trivial,?_⟩
    have B9:FrB u9 b s Q:=B8.fr D (by omega)
    have F9:Fr (λi=>i=b) w u9:=Fr.st' (Fr.st' (((Fu.trans (Fr.fr EX)).trans l).trans (Fr.fr H.e)) z λi hi=>by have:=hi.1;omega) D λi hi=>by omega
    have V:preR (d++[x]) (rdMany rdT (N - (k+1)) (s.drop Q))=rdMany rdT N (s.drop W):=by rw [<-C];exact(zAD hr.2 d).symm
    exact rA ⟨rfl,a4,Q,d++[x],a8,c8,by simp [a1],V,hr.1,B9,Q9,R.frc D U (by decide),R8.fr D (by omega),F9,by omega⟩
   ·refine rcallP (zHn (A:=Ak) BX hs) ?_ ?_
    case' refine_2 =>
     rintro _ O ⟨rfl,r,l⟩
     have a5:rdWs (s.drop A2)=none:=by
      rw [ew,<-C,zA4 r];rfl
     have o:PanF=PanF/\rdQ kind (s.drop A)=none/\Fr (λi=>i=b) w O:=⟨rfl,by rw [e3,a5],(Fu.trans (Fr.fr EX)).trans l⟩
     intro F' ag
     show panS PP _ _ (λc w'=>c=PanF/\rdQ kind (s.drop A)=none/\Fr (λi=>i=b) w w') F' PanF O
     exact panR' (ag 4294967296 rfl) rfl o
    rintro _ O ⟨x,Q,hr,rfl,B6,l⟩
    refine⟨Fr.mono l λ_ _ _=>trivial,?_⟩
    have M:=(Bk.mv (w:=Z) Qu).fr l (by omega)
    have R6:=(Bk.mv (w:=Z) Ru).fr l (by omega)
    have I:=(Own.up (w':=Z) Ou).frc l BX (by decide)
    have z6:=l.size
    have z1:=Le.size (a:=u) (b:=Z)
    refine⟨?_,?_⟩
    ·refine rld (B:=M) rfl ⟨Fr.refl _ _,?_⟩
     refine rbs1 (bsOf x) rfl rfl (by decide) λb7 f H _ S7=>⟨Fr.fr H.e,?_⟩
     have Q7:=M.mv (w:=f)
     have z7:=Le.size (a:=O) (b:=f)
     refine rappB ⟨rfl,rfl⟩ (I.up (w':=f)) S7 (by omega) (by simp;omega) λv8 u8 R z=>⟨Fr.mono z λ_ _ _=>trivial,?_⟩
     have U:=Q7.fro (I.up (w':=f)) z (by decide)
     have R8:=(R6.mv (w:=f)).fro (I.up (w':=f)) z (by decide)
     have B8:FrB u8 b s Q:=(Bk.mv (w:=f) B6).fro (I.up (w':=f)) z (by decide)
     have z8:=z.size
     have em:(d.map bsOf)++[bsOf x]=(d++[x]).map bsOf:=by rw [List.map_append];rfl
     rw [em] at R
     have q8:=R.shape
     obtain⟨a8,c8,rfl⟩:=q8
     refine rsto (B:=U) (vs:=[.slice a8 ((d++[x]).map bsOf).length c8]) rfl rfl rfl (by intro u J;simp at J;subst J;rfl) λu9 Q9 D _=>⟨Fr.mono D λ_ _ _=>trivial,?_⟩
     have B9:FrB u9 b s Q:=B8.fr D (by omega)
     have F9:Fr (λi=>i=b) w u9:=Fr.st' (Fr.st' (((Fu.trans (Fr.fr EX)).trans l).trans (Fr.fr H.e)) z λi hi=>by have:=hi.1;omega) D λi hi=>by omega
     have V:preR (d++[x]) (rdMany rdT (N - (k+1)) (s.drop Q))=rdMany rdT N (s.drop W):=by rw [<-C];exact(zAD hr.2 d).symm
     exact rA ⟨rfl,a4,Q,d++[x],a8,c8,by simp [a1],V,hr.1,B9,Q9,R.frc D U (by decide),R8.fr D (by omega),F9,by omega⟩
    ·refine rbs1 (bsOf x) rfl rfl (by decide) λb7 f H _ S7=>⟨Fr.fr H.e,?_⟩
     refine rld (B:=M) rfl ⟨Fr.refl _ _,?_⟩
     have Q7:=M.mv (w:=f)
     have z7:=Le.size (a:=O) (b:=f)
     refine rappB ⟨rfl,rfl⟩ (I.up (w':=f)) S7 (by omega) (by simp;omega) λv8 u8 R z=>⟨Fr.mono z λ_ _ _=>trivial,?_⟩
     have U:=Q7.fro (I.up (w':=f)) z (by decide)
     have R8:=(R6.mv (w:=f)).fro (I.up (w':=f)) z (by decide)
     have B8:FrB u8 b s Q:=(Bk.mv (w:=f) B6).fro (I.up (w':=f)) z (by decide)
     have z8:=z.size
     have em:(d.map bsOf)++[bsOf x]=(d++[x]).map bsOf:=by rw [List.map_append];rfl
     rw [em] at R
     have q8:=R.shape
     obtain⟨a8,c8,rfl⟩:=q8
     refine rsto (B:=U) (vs:=[.slice a8 ((d++[x]).map bsOf).length c8]) rfl rfl rfl (by intro u J;simp at J;subst J;rfl) λu9 Q9 D _=>⟨Fr.mono D λ_ _ _=>trivial,?_⟩
     have B9:FrB u9 b s Q:=B8.fr D (by omega)
     have F9:Fr (λi=>i=b) w u9:=Fr.st' (Fr.st' (((Fu.trans (Fr.fr EX)).trans l).trans (Fr.fr H.e)) z λi hi=>by have:=hi.1;omega) D λi hi=>by omega
     have V:preR (d++[x]) (rdMany rdT (N - (k+1)) (s.drop Q))=rdMany rdT N (s.drop W):=by rw [<-C];exact(zAD hr.2 d).symm
     exact rA ⟨rfl,a4,Q,d++[x],a8,c8,by simp [a1],V,hr.1,B9,Q9,R.frc D U (by decide),R8.fr D (by omega),F9,by omega⟩
  ·have q_:k=N:=by omega
   obtain rfl:=q_
   rw [Nat.sub_self] at C
   have a6:rdWs (s.drop A2)=some (d,s.drop Ak):=by rw [ew,<-C];simp [rdMany,preR]
   have b3:=Qu.lt
   have d0:=Ru.lt
   refine rcallP (zBP Bu hs) ?_ ?_
   case' refine_2 =>
    rintro _ O ⟨rfl,r,l⟩
    have o:PanF=PanF/\rdQ kind (s.drop A)=none/\Fr (λi=>i=b) w O:=⟨rfl,by rw [e3,a6];simp only;rw [r],Fu.trans l⟩
    exact o
   rintro _ O ⟨x,A6,b1,rfl,B6,l⟩
   have M:=Qu.fr l (by omega)
   have R6:=Ru.fr l (by omega)
   have I:=Ou.frc l Bu (by decide)
   refine rsto (B:=M) (vs:=[.int .i64 (x:Int)]) rfl rfl rfl (int_o _) λf Q7 f7 _=>?_
   have Q7:Bk f bq [.int .i64 (kind:Int),.int .i64 (a:Int),.int .i64 0,.slice X (d.map bsOf).length Y,.int .i64 (x:Int),.int .i64 0] E.qr:=Q7
   have B7:FrB f b s A6:=B6.fr f7 L
   have R7:=R6.fr f7 K
   have O7:=I.frc f7 M (by decide)
   have F7:Fr (λi=>i=b) w f:=Fr.st' (Fu.trans l) f7 λi hi=>by omega
   refine rcallP (zBP B7 hs) ?_ ?_
   case' refine_2 =>
    rintro _ u4 ⟨rfl,r,z⟩
    have o:PanF=PanF/\rdQ kind (s.drop A)=none/\Fr (λi=>i=b) w u4:=⟨rfl,by rw [e3,a6];simp only;rw [b1.2];simp only;rw [r],F7.trans z⟩
    exact o
   rintro _ u4 ⟨y,A8,b2,rfl,B8,z⟩
   have U:=Q7.fr z (by omega)
   have R8:=R7.fr z (by omega)
   have R:=O7.frc z B7 (by decide)
   refine rsto (B:=U) (vs:=[.int .i64 (y:Int)]) rfl rfl rfl (int_o _) λu5 Q9 D _=>?_
   have Q9:Bk u5 bq [.int .i64 (kind:Int),.int .i64 (a:Int),.int .i64 0,.slice X (d.map bsOf).length Y,.int .i64 (x:Int),.int .i64 (y:Int)] E.qr:=Q9
   have B9:FrB u5 b s A8:=B8.fr D L
   have R9:=R8.fr D K
   have O9:=R.frc D U (by decide)
   refine rldG (ds:=enc (⟨kind,a,0,⟨X,(d.map bsOf).length,Y⟩,x,y⟩:RQ)) (B:=Q9) rfl rfl ?_
   refine rsto (B:=R9) (vs:=enc (⟨kind,a,0,⟨X,(d.map bsOf).length,Y⟩,x,y⟩:RQ)) rfl rfl rfl (Enc.one _) λu6 a7 a9 _=>?_
   have a7:Bk u6 br (enc (⟨kind,a,0,⟨X,(d.map bsOf).length,Y⟩,x,y⟩:RQ)) E.qr:=a7
   have b4:FrB u6 b s A8:=B9.fr a9 (by omega)
   have b5:=O9.frc a9 R9 (by decide)
   have b6:Fr (λi=>i=b) w u6:=Fr.st' (Fr.st' (F7.trans z) D λi hi=>by omega) a9 λi hi=>by omega
   refine rresG (B:=a7) rfl ?_
   have o:QrT s A b kind w (agg (⟨kind,a,0,⟨X,(d.map bsOf).length,Y⟩,x,y⟩:RQ)) u6:=⟨⟨kind,a,0,d.map bsOf,x,y⟩,A8,⟨kind,a,0,⟨X,(d.map bsOf).length,Y⟩,x,y⟩,⟨b2.1,by rw [e3,a6];simp only;rw [b1.2];simp only;rw [b2.2]⟩,rfl,⟨rfl,rfl,rfl,b5.mono (by omega),rfl,rfl⟩,b4,b6⟩
   exact o
structure RqV (w:World) (x:RReq) (d:RqD):Prop where
 id:x.id=d.id
 kind:x.kind=d.kind
 q:QyV w x.q d.q
theorem RqV.up{w:World}[Le w w']{x:RReq}{d:RqD}(h:RqV w x d):RqV w' x d:=⟨h.id,h.kind,h.q.up⟩
def RqZ (x:RqD):Prop:=if x.kind=4 then x.q=zQy else if x.kind=3 then x.q.to=0 else x.q.words=[]/\x.q.rad=0/\x.q.most=0
theorem zEN{x:RReq}{d:RqD}{w:World}(V:RqV w x d):Sp PP F.c8 #[agg x] w λv w'=>Tells (RqZ d) v/\Stp w w':=by
 obtain⟨S,T,⟨U,W,X,kw,Y,Z⟩⟩:=V;obtain⟨D,G,⟨r,y,l,⟨H,wn,I⟩,o,p⟩⟩:=x;obtain⟨di,dk,⟨d1,d2,d3,dw,d4,d5⟩⟩:=d;simp only at S T U W X Y Z;subst S T U W X Y Z;have O:wn=dw.length:=kw.len;subst O;have J:agg (⟨D,G,⟨r,y,l,⟨H,dw.length,I⟩,o,p⟩⟩:RReq)=.agg #[.int .i64 D,.int .i64 G,.int .i64 r,.int .i64 y,.int .i64 l,.slice H dw.length I,.int .i64 o,.int .i64 p]:=rfl;rw [J];have K:dw.length=0↔dw=[]:=XB;refine eN ?_;refine rbx λb w1 n1 M=>rldG (ds:=[.int .i64 r,.int .i64 y,.int .i64 l,.slice H dw.length I,.int .i64 o,.int .i64 p]) (B:=M) rfl rfl (ral λb2 w2 n2 Z2=>?_);have a0:=n1.b;have a1:=n1.s;have a4:=n2.b;have a5:=n2.s;refine rS Z2 [.int .i64 r,.int .i64 y,.int .i64 l,.slice H dw.length I,.int .i64 o,.int .i64 p] (by intro u hu;simp at hu;rcases hu with rfl|rfl|rfl|rfl|rfl|rfl <;> rfl) λw3 h Q=>?_;have h:Bk w3 b2 [.int .i64 r,.int .i64 y,.int .i64 l,.slice H dw.length I,.int .i64 o,.int .i64 p] E.qr:=h;have s3:Stp w w3:=⟨Fr.st (lE w w2) Q λi hi=>by omega⟩;have M:=(M.mv (w:=w2)).fr Q (by omega);clear Z2 Q;refine rX M rfl (ite (λN=>?_) (λN=>?_))
 ·have c:RqZ ⟨D,G,⟨r,y,l,dw,o,p⟩⟩↔(r=0/\y=0/\l=0/\dw=[]/\o=0/\p=0):=by
   unfold RqZ zQy;simp only;rw [if_pos N];simp only [QyD.mk.injEq]
  refine rX h rfl (ite (λz=>?_) (λz=>⟨.f λm=>z (c.1 m).1,stp⟩));refine rX h rfl (ite (λA=>?_) (λA=>⟨.f λm=>A (c.1 m).2.1,stp⟩));refine rX h rfl (ite (λR=>?_) (λR=>⟨.f λm=>R (c.1 m).2.2.1,stp⟩));refine rX h rfl (ite (λL=>?_) (λL=>⟨.f λm=>L (by rw [(c.1 m).2.2.2.1];rfl),stp⟩));refine rX h rfl (ite (λC=>?_) (λC=>⟨.f λm=>C (c.1 m).2.2.2.2.1,stp⟩));refine rX h rfl (ite (λe=>?_) (λe=>⟨.f λm=>e (c.1 m).2.2.2.2.2,stp⟩));exact⟨.t (c.2 ⟨z,A,R,K.1 (by omega),C,e⟩),stp⟩
 refine ite (λz=>?_) (λz=>?_)
 ·have c:RqZ ⟨D,G,⟨r,y,l,dw,o,p⟩⟩↔l=0:=by unfold RqZ;simp only;rw [if_neg N,if_pos z]
  refine rX h rfl ?_;exact ite (λA=>⟨.t (c.2 A),stp⟩) (λA=>⟨.f λm=>A (c.1 m),stp⟩)
 have c:RqZ ⟨D,G,⟨r,y,l,dw,o,p⟩⟩↔(dw=[]/\o=0/\p=0):=by unfold RqZ;simp only;rw [if_neg N,if_neg z]
 refine rX h rfl (ite (λL=>?_) (λL=>⟨.f λm=>L (by rw [(c.1 m).1];rfl),stp⟩));refine rX h rfl (ite (λC=>?_) (λC=>⟨.f λm=>C (c.1 m).2.1,stp⟩));refine rX h rfl (ite (λe=>?_) (λe=>⟨.f λm=>e (c.1 m).2.2,stp⟩));exact⟨.t (c.2 ⟨K.1 (by omega),C,e⟩),stp⟩
theorem zFg{x:RReq}{d:RqD}{w:World}(V:RqV w x d)(G:d.q.words.length<=1000000)(H:∀s∈d.q.words,s.size<=1000000):Sp PP F.qaz #[agg x] w λv w'=>Tells (RqIs d) v/\Stp w w':=by
 obtain⟨e,o,z⟩:=V;refine eN ?_;refine rbx λb w1 n1 l=>rX l rfl (ite (λC=>?_) (λC=>?_))
 ·have p:d.kind=4\/d.q.kind=d.kind/\QyIs d.q 200:=.inl (by rw [<-o];exact C);have A:∃u,u=w1:=⟨_,rfl⟩;obtain⟨u,I⟩:=A;subst I;refine rX l rfl (ite (λr=>?_) (λr=>⟨.f λm=>r (by rw [e];exact m.2.1.1),stp⟩));refine rX l rfl (ite (λy=>?_) (λy=>⟨.f λm=>y (by rw [e];exact m.2.1.2),stp⟩));refine rldG (ds:=enc x) (B:=l) rfl (Enc.len x) (rcall (zEN (d:=d) ⟨e,o,z.up (w':=u)⟩) ?_);rintro v J ⟨c,K⟩;refine⟨?_,stp⟩;rcases c with ⟨rfl,c⟩|⟨rfl,c⟩
  ·exact .t ⟨p,⟨by rw [<-e];exact r,by rw [<-e];exact y⟩,c⟩
  ·exact .f λm=>c m.2.2
 refine rX l rfl (rX l rfl ?_);refine ite (λD=>?_) (λD=>?_)
 ·refine rldG (ds:=enc x.q) (B:=l) rfl (Enc.len x.q) (rcall (zES (n:=200) (z.up (w':=w1)) G H) ?_);rintro _ u ⟨⟨E,rfl⟩|⟨E,rfl⟩,L⟩
  ·have p:d.kind=4\/d.q.kind=d.kind/\QyIs d.q 200:=.inr ⟨by rw [<-o,<-z.kind];exact D,E⟩;refine iT rfl (rX l rfl (ite (λr=>?_) (λr=>⟨.f λm=>r (by rw [e];exact m.2.1.1),stp⟩)));refine rX l rfl (ite (λy=>?_) (λy=>⟨.f λm=>y (by rw [e];exact m.2.1.2),stp⟩));refine rldG (ds:=enc x) (B:=l) rfl (Enc.len x) (rcall (zEN (d:=d) ⟨e,o,z.up (w':=u)⟩) ?_);rintro v J ⟨c,K⟩;refine⟨?_,stp⟩;rcases c with ⟨rfl,c⟩|⟨rfl,c⟩
   ·exact .t ⟨p,⟨by rw [<-e];exact r,by rw [<-e];exact y⟩,c⟩
   ·exact .f λm=>c m.2.2
  ·refine iF (by decide) ?_
   exact⟨.f λm=>by
    have A:=m.1;rcases A with h|h
    ·exact C (by rw [o];exact h)
    ·exact E h.2,stp⟩
 ·exact⟨.f λm=>by
   have A:=m.1;rcases A with h|h
   ·exact C (by rw [o];exact h)
   ·exact D (by rw [z.kind,o];exact h.1),stp⟩
def RqO (B:Nat) (w:World) (x:RReq) (d:RqD):Prop:=x.id=d.id/\x.kind=d.kind/\QyO B w x.q d.q
theorem RqO.v{w:World}{x:RReq}{d:RqD}(h:RqO B w x d):RqV w x d:=⟨h.1,h.2.1,⟨h.2.2.1,h.2.2.2.1,h.2.2.2.2.1,h.2.2.2.2.2.1.sl,h.2.2.2.2.2.2.1,h.2.2.2.2.2.2.2⟩⟩
theorem zN2{r t:List UInt8}(h:rdQ k r=some (q,t)):q.words.length<=8/\∀s∈q.words,s.size<=4000:=by
 unfold rdQ at h;split at h
 ·cases h
 ·split at h
  ·split at h
   ·cases h
   ·cases h;simp
  ·split at h
   ·cases h
   ·rename_i f o b;split at h
    ·cases h
    ·split at h
     ·cases h
     ·cases h;have:=zEt b;refine⟨by simpa using this.1,λs c=>?_⟩;have d:=Qq.1 c;obtain⟨l,e,rfl⟩:=d;have:=this.2 l e;simpa [bsOf,ByteArray.size] using this
theorem rdR_1(h:rdN s=none):rdR s=none:=by unfold rdR;rw [h]
theorem rdR_2{b:List UInt8}{id:Nat}(h:rdN s=some (id,b)):rdR s=match rdN b with
  |none=>none
  |some (k,c)=>if k<=4 then (if k=4 then some (⟨id,4,zQy⟩,c) else match rdQ k c with
   |none=>none
   |some (q,d)=>some (⟨id,k,q⟩,d)) else none:=by unfold rdR;rw [h];rfl
abbrev zRq:RReq:=⟨0,0,⟨0,0,0,⟨none,0,0⟩,0,0⟩⟩
abbrev RpT (s:List UInt8) (b:Nat) (w:World) (v:Value) (w':World):Prop:=∃d A' x,RdsV rdR s 0 d A'/\RqIs d/\v=agg x/\RqO w.heap.size w' x d/\FrB w' b s A'/\Fr (λi=>i=b) w w'
abbrev RpN (s:List UInt8) (b:Nat) (w:World) (c:List PanicEntry) (w':World):Prop:=c=PanF/\(∀d t,rdR s=some (d,t)->¬RqIs d)/\Fr (λi=>i=b) w w'
theorem zDJ{b:Nat}{w:World}(B:FrB w b s 0)(hs:s.length<=4611686018427387904):
  SpP PP F.qx #[.pointer (some ⟨b,0,none⟩)] w (λv w'=>RpT s b w v w') (λc w'=>RpN s b w c w'):=by
 have a4:=B.lt
 refine enP TBok rfl ?_
 refine ral λbr w1 n1 R1=>?_
 have a5:=n1.b;have a6:=n1.s
 have R1:Bk w1 br (enc zRq) E.qa:=R1
 refine rcallP (zBP (B.mv (w:=w1)) hs) ?_ ?_
 case' refine_2 =>
  rintro _ w2 ⟨rfl,G,X⟩
  have f:RpN s b w PanF w2:=⟨rfl,(λd t h=>by rw [rdR_1 (by simpa using G)] at h;cases h),(Fr.fr n1.e).trans X⟩
  exact f
 rintro _ w2 ⟨id,A2,a0,rfl,B2,X⟩
 have R2:=R1.fr X (by omega)
 have z2:=X.size
 refine rbuild (cs:=enc (⟨id,0,⟨0,0,0,⟨none,0,0⟩,0,0⟩⟩:RReq)) rfl ?_
 refine ral λbx w3 n3 X3=>?_
 have a7:=n3.b;have a8:=n3.s
 refine rsto (B:=X3) (vs:=enc (⟨id,0,⟨0,0,0,⟨none,0,0⟩,0,0⟩⟩:RReq)) rfl rfl rfl (Enc.one _) λw4 X4 f4 _=>?_
 have X4:Bk w4 bx (enc (⟨id,0,⟨0,0,0,⟨none,0,0⟩,0,0⟩⟩:RReq)) E.qa:=X4
 have a9:=R1.lt
 have H:¬br=bx:=by omega
 have I:¬b=bx:=by omega
 have R4:=(R2.mv (w:=w3)).fr f4 H
 have B4:FrB w4 b s A2:=(B2.mv (w:=w3)).fr f4 I
 have F4:Fr (λi=>i=b) w w4:=Fr.st' ((((Fr.fr n1.e).trans X).trans (Fr.fr n3.e))) f4 λi hi=>by omega
 have z4:=f4.size
 have e2:=rdR_2 (show rdN s=some (id,s.drop A2) by simpa using a0.2)
 refine rcallP (zHm (m:=4) B4 hs) ?_ ?_
 case' refine_2 =>
  rintro _ w5 ⟨rfl,G,T⟩
  have f:RpN s b w PanF w5:=by
   refine⟨rfl,λd t h=>?_,F4.trans T⟩
   rw [e2] at h
   cases hn:rdN (s.drop A2) with
   |none=>rw [hn] at h;cases h
   |some p =>
    obtain⟨k,t'⟩:=p
    rw [hn] at h
    simp only at h
    rw [if_neg (G k t' hn)] at h;cases h
  exact f
 rintro _ w5 ⟨k,Y,Z,hk,rfl,B5,T⟩
 have e5:rdR s=(if k=4 then some (⟨id,4,zQy⟩,s.drop Y) else match rdQ k (s.drop Y) with
   |none=>none
   |some (q,r3)=>some (⟨id,k,q⟩,r3)):=by rw [e2,Z.2];simp only;rw [if_pos hk]
 have X5:=X4.fr T (by omega)
 have R5:=R4.fr T (by omega)
 have z5:=T.size
 refine rsto (B:=X5) (vs:=[.int .i64 (k:Int)]) rfl rfl rfl (int_o _) λU V f6 _=>?_
 have V:Bk U bx (enc (⟨id,k,⟨0,0,0,⟨none,0,0⟩,0,0⟩⟩:RReq)) E.qa:=V
 have R6:=R5.fr f6 H
 have B6:FrB U b s Y:=B5.fr f6 I
 have lx:=X4.lt
 have F6:Fr (λi=>i=b) w U:=Fr.st' (F4.trans T) f6 λi hi=>by omega
 have z6:=f6.size
 refine rld (B:=V) rfl ?_
 refine ite (λh4=>?_) (λh4=>?_)
 ·dsimp only at h4
  have L:¬k=4:=by omega
  rw [if_neg L] at e5
  refine rld (B:=V) rfl ?_
  refine rcallP (zLl (kind:=k) B6 hs) ?_ ?_
  case' refine_2 =>
   rintro _ w7 ⟨rfl,G,W⟩
   have f:RpN s b w PanF w7:=⟨rfl,(λd t h=>by rw [e5,G] at h;cases h),F6.trans W⟩
   exact f
  rintro _ w7 ⟨q,A7,xq,M,rfl,OQ,B7,W⟩
  have z7:=W.size
  have X7:=V.fr W (by omega)
  have R7:=R6.fr W (by omega)
  refine rsto (B:=X7) (vs:=enc xq) rfl rfl rfl (Enc.one _) λw8 X8 f8 _=>?_
  have N:Bk w8 bx (enc (⟨id,k,xq⟩:RReq)) E.qa:=X8
  have RU:=R7.fr f8 H
  have BU:FrB w8 b s A7:=B7.fr f8 I
  have FU:Fr (λi=>i=b) w w8:=Fr.st' (F6.trans W) f8 λi hi=>by omega
  have z8:=f8.size
  have a1:w.heap.size<=U.heap.size:=by omega
  have l:RqO w.heap.size w8 (⟨id,k,xq⟩:RReq) ⟨id,k,q⟩:=⟨rfl,rfl,OQ.1,OQ.2.1,OQ.2.2.1,(OQ.2.2.2.1.frc f8 X7 (by decide)).mono a1,OQ.2.2.2.2⟩
  have o:RdsV rdR s 0 (⟨id,k,q⟩:RqD) A7:=⟨M.1,by rw [List.drop_zero,e5,M.2]⟩
  have J:∃x,x=(⟨id,k,xq⟩:RReq):=⟨_,rfl⟩
  obtain⟨x,hx⟩:=J
  have J:∃d,d=(⟨id,k,q⟩:RqD):=⟨_,rfl⟩
  obtain⟨d,hd⟩:=J
  have J:∃y,y=A7:=⟨_,rfl⟩
  obtain⟨AU,O⟩:=J
  have r:d.q.words.length<=1000000/\∀t∈d.q.words,t.size<=1000000:=by
   have h8:=zN2 M.2
   rw [hd]
   exact⟨Nat.le_trans h8.1 (by decide),λt ht=>Nat.le_trans (h8.2 t ht) (by decide)⟩
  rw [<-hx] at N l
  rw [<-hd] at l o
  rw [<-O] at BU o
  have K:d.q.words.length<=1000000/\∀t∈d.q.words,t.size<=1000000:=r
  refine rldG (ds:=enc x) (B:=N) rfl (Enc.len x) ?_
  refine rcall (zFg (d:=d) l.v K.1 K.2) ?_
  rintro _ A ⟨⟨rfl,Q⟩|⟨rfl,Q⟩,e9⟩
  ·refine rcallP zAh ?_ ?_
   ·rintro _ A ⟨_,rfl,rfl⟩
    have X9:=N.mv (w:=A)
    have R9:=RU.mv (w:=A)
    refine rldG (ds:=enc x) (B:=X9) rfl (Enc.len x) ?_
    refine rsto (B:=R9) (vs:=enc x) rfl rfl rfl (Enc.one _) λz C D _=>?_
    have C:Bk z br (enc x) E.qa:=C
    have R:FrB z b s AU:=(Bk.mv (w:=A) BU).fr D (by omega)
    have S:Fr (λi=>i=b) w z:=Fr.st' (FU.trans (Fr.fr e9.e)) D λi hi=>by omega
    refine rresG (B:=C) rfl ?_
    have f:RpT s b w (agg x) z:=⟨d,AU,x,o,Q,rfl,⟨l.1,l.2.1,l.2.2.1,l.2.2.2.1,l.2.2.2.2.1,(l.2.2.2.2.2.1.up (w':=A)).frc D R9 (by decide),l.2.2.2.2.2.2⟩,R,S⟩
    exact f
   ·rintro _ _ ⟨h,_⟩;cases h
  ·refine rcallP zAh ?_ ?_
   ·rintro _ _ ⟨h,_⟩;cases h
   ·rintro _ A ⟨_,rfl,rfl⟩
    have f:RpN s b w PanF A:=by
     refine⟨rfl,λd' t h hd=>?_,FU.trans (Fr.fr e9.e)⟩
     have h2:=o.2
     rw [List.drop_zero,h] at h2
     cases h2
     exact Q hd
    exact f
 ·dsimp only at h4
  have L:k=4:=by omega
  rw [if_pos L] at e5
  have N:Bk U bx (enc (⟨id,k,⟨0,0,0,⟨none,0,0⟩,0,0⟩⟩:RReq)) E.qa:=V
  have RU:=R6
  have BU:=B6
  have FU:=F6
  have l:RqO w.heap.size U (⟨id,k,⟨0,0,0,⟨none,0,0⟩,0,0⟩⟩:RReq) ⟨id,4,zQy⟩:=⟨rfl,by rw [L];rfl,rfl,rfl,rfl,Own.nil _ _ _,rfl,rfl⟩
  have o:RdsV rdR s 0 (⟨id,4,zQy⟩:RqD) Y:=⟨Z.1,by rw [List.drop_zero,e5]⟩
  have J:∃x,x=(⟨id,k,⟨0,0,0,⟨none,0,0⟩,0,0⟩⟩:RReq):=⟨_,rfl⟩
  obtain⟨x,hx⟩:=J
  have J:∃d,d=(⟨id,4,zQy⟩:RqD):=⟨_,rfl⟩
  obtain⟨d,hd⟩:=J
  have J:∃y,y=Y:=⟨_,rfl⟩
  obtain⟨AU,O⟩:=J
  have r:d.q.words.length<=1000000/\∀t∈d.q.words,t.size<=1000000:=by rw [hd];simp [zQy]
  rw [<-hx] at N l
  rw [<-hd] at l o
  rw [<-O] at BU o
  have K:d.q.words.length<=1000000/\∀t∈d.q.words,t.size<=1000000:=r
  refine rldG (ds:=enc x) (B:=N) rfl (Enc.len x) ?_
  refine rcall (zFg (d:=d) l.v K.1 K.2) ?_
  rintro _ A ⟨⟨rfl,Q⟩|⟨rfl,Q⟩,e9⟩
  ·refine rcallP zAh ?_ ?_
   ·rintro _ A ⟨_,rfl,rfl⟩
    have X9:=N.mv (w:=A)
    have R9:=RU.mv (w:=A)
    refine rldG (ds:=enc x) (B:=X9) rfl (Enc.len x) ?_
    refine rsto (B:=R9) (vs:=enc x) rfl rfl rfl (Enc.one _) λz C D _=>?_
    have C:Bk z br (enc x) E.qa:=C
    have R:FrB z b s AU:=(Bk.mv (w:=A) BU).fr D (by omega)
    have S:Fr (λi=>i=b) w z:=Fr.st' (FU.trans (Fr.fr e9.e)) D λi hi=>by omega
    refine rresG (B:=C) rfl ?_
    have f:RpT s b w (agg x) z:=⟨d,AU,x,o,Q,rfl,⟨l.1,l.2.1,l.2.2.1,l.2.2.2.1,l.2.2.2.2.1,(l.2.2.2.2.2.1.up (w':=A)).frc D R9 (by decide),l.2.2.2.2.2.2⟩,R,S⟩
    exact f
   ·rintro _ _ ⟨h,_⟩;cases h
  ·refine rcallP zAh ?_ ?_
   ·rintro _ _ ⟨h,_⟩;cases h
   ·rintro _ A ⟨_,rfl,rfl⟩
    have f:RpN s b w PanF A:=by
     refine⟨rfl,λd' t h hd=>?_,FU.trans (Fr.fr e9.e)⟩
     have h2:=o.2
     rw [List.drop_zero,h] at h2
     cases h2
     exact Q hd
    exact f
theorem zGK{h:HitD}{w:World}:Sp PP F.qs #[agg h] w λv w'=>Tells (¬HitOk h) v/\Stp w w':=by
 refine eN ?_;refine rbx λp w1 n1 b=>rX b rfl (ite (λc=>⟨.t (λe=>by have:=e.1;omega),stp⟩) (λc=>?_));refine rX b rfl (ite (λd=>⟨.t (λe=>by have:=e.2.1;omega),stp⟩) (λd=>?_));refine rX b rfl (ite (λl=>⟨.t (λe=>by have:=e.2.2.1;omega),stp⟩) (λl=>?_));refine rX b rfl (ite (λo=>⟨.t (λe=>by have:=e.2.2.2;omega),stp⟩) (λo=>⟨.f (λe=>e ⟨by omega,by omega,by omega,by omega⟩),stp⟩))
theorem zDc{c:Nat}{l:List HitD}{w:World}(h:SlF w (.slice a n c) l)(A:l.length<=1000000):
  Sp PP F.za #[.slice a n c,.func (.func F.qs) #[] #[]] w λv w'=>((∃k:Nat,v=.int .i64 (k:Int)/\∃y∈l,¬HitOk y)\/(v=.int .i64 (-1)/\∀y∈l,HitOk y))/\Stp w w':=by
 have f:=h.len;obtain rfl:=f;refine eN ?_;refine cnt TBok 9 [4,5] 8 l.length (λk u=>(∀y∈l.take k,HitOk y)/\Stp w u) rfl rfl ⟨by simp,stp⟩ ?_;rintro k g u C ⟨b,e⟩;refine ite (λhlt=>?_) (λr=>?_)
 ·have o:k<l.length:=by omega
  refine rix (h.up (w':=u)) (x:=l[k]) (by simp) λD E z=>rloadA z rfl (rcall (zGK (h:=l[k])) ?_);rintro _ G ⟨⟨rfl,p⟩|⟨rfl,p⟩,H⟩
  ·exact⟨.inl ⟨k,rfl,l[k],Qa _,p⟩,stp⟩
  ·refine rA ⟨rfl,o,λt d=>?_,stp⟩;rw [take_add o] at d;have f:=Qf.1 d;rcases f with d|d
   ·exact b t d
   ·rw [Qc.1 d];exact Q2.1 p
 ·have f:k=l.length:=by omega
  obtain rfl:=f;rw [Qj (Qe _)] at b;exact⟨.inr ⟨rfl,b⟩,stp⟩
theorem zA9{c:Nat}{l:List HitD}{w:World}(h:SlF w (.slice a n c) l)(e:l.length<=1000000):
  Sp PP F.yu #[.slice a n c,.func (.func F.qs) #[] #[]] w λv w'=>Tells (∃y∈l,¬HitOk y) v/\Stp w w':=by
 refine eN ?_;refine rcall (zDc h e) ?_;rintro _ r ⟨⟨k,rfl,d⟩|⟨rfl,d⟩,x⟩
 ·refine ite (λb=>⟨.t d,stp⟩) (λb=>absurd b (by omega))
 ·refine ite (λb=>absurd b (by omega)) (λb=>⟨.f (λ⟨y,o,p⟩=>p (d y o)),stp⟩)
theorem zH3{x : RepD}{l : List HitD}{w : World}(h : SlF w (.slice x.a.s.a x.a.s.n x.a.s.c) l)(W : l.length <= 1000000) :
    Sp PP F.ck #[agg x] w λv w' => Tells (RepOk x l) v /\ Stp w w' := by
  obtain ⟨id, o, G, d, H, sn, I⟩ := x;have r : sn = l.length := h.len;have C : ∀ u : World, Stp w u -> ¬ RepOk ⟨id, o, G, d, H, sn, I⟩ l -> Tells (RepOk ⟨id, o, G, d, H, sn, I⟩ l) (.bool false) /\ Stp w u := λu s hf => ⟨.f hf, s⟩;have X : l.length = 0 -> l = [] := Qn;refine eN ?_;refine rbx λb1 w1 n1 D => (rldG (ds := enc (⟨G, d, H, sn, I⟩ : AnsD)) (B := D) rfl rfl (ral λb2 w2 n2 z2 => (rsto (B := z2) (vs := enc (⟨G, d, H, sn, I⟩ : AnsD)) rfl rfl rfl (Enc.one _) λJ Y Z _ => ?_)));have s3 : Stp w1 J := ⟨Fr.st Le.e Z λi hi => by subst hi; exact n2.lo⟩;have z : Bk J b2 [.bool G, .int .i64 d, .slice H sn I] E.qd := Y;have D := D.mv (w := J);clear Y z2 Z;refine rld (B := z) rfl (ite (λ(z1 : d = 0) => ?pp) (λ(z1 : ¬ d = 0) => ?n1))
  case' pp =>
    refine rld (B := z) rfl (ite (λ(z2 : (sn : Int) = 0) => ?yy) (λ(z2 : ¬ (sn : Int) = 0) => ?n2))
  case' n1 => have A : ¬ (d = 0 /\ l = []) := λe => z1 e.1
  case' n2 => have A : ¬ (d = 0 /\ l = []) := λe => by rw [e.2] at r; simp at r; omega
  case' yy => have A : d = 0 /\ l = [] := ⟨z1, X (by omega)⟩
  all_goals
    refine rld (B := D) rfl (ite (λ(h : id < 0) => C _ stp λe => by have := e.1.1; dsimp only at this; omega) (λ(h1 : ¬ id < 0) => ?_));refine rld (B := D) rfl (ite (λ(h : 2147483647 < id) => C _ stp λe => by have := e.1.2; dsimp only at this; omega) (λ(h2 : ¬ 2147483647 < id) => ?_));refine rld (B := D) rfl (ite (λ(h : o < 0) => C _ stp λe => by have := e.2.1.1; dsimp only at this; omega) (λ(h3 : ¬ o < 0) => ?_));refine rld (B := D) rfl (ite (λ(h : 1000 < o) => C _ stp λe => by have := e.2.1.2; dsimp only at this; omega) (λ(h4 : ¬ 1000 < o) => ?_));have p : (0 <= id /\ id <= 2147483647) /\ (0 <= o /\ o <= 1000) := ⟨⟨by omega, by omega⟩, by omega, by omega⟩;refine rld (B := D) rfl (ite (λ(K : o ≠ 0) => ?_) (λ(K : ¬ o ≠ 0) => ?_))
    · cases G
      · first
        | exact C _ stp λe => A (e.2.2.2.2.1 K).2
        | (refine rld (B := z) rfl ?_
           exact ⟨.t ⟨p.1, p.2, ⟨by show 0 <= d; omega, by show d <= 400; omega⟩, by rw [A.2]; simp, λ_ => ⟨rfl, A⟩, λ_ => A, .inl A.2, by rw [A.2]; simp⟩, stp⟩)
      · first
        | exact C _ stp λe => nomatch (e.2.2.2.2.1 K).1
        | (refine rld (B := z) rfl ?_
           exact C _ stp λe => nomatch (e.2.2.2.2.1 K).1)
    · have L : o = 0 := Q2.1 K
      refine rld (B := z) rfl ?_;cases G
      · first
        | exact C _ stp λe => A (e.2.2.2.2.2.1 rfl)
        | (refine rld (B := z) rfl ?_
           exact ⟨.t ⟨p.1, p.2, ⟨by show 0 <= d; omega, by show d <= 400; omega⟩, by rw [A.2]; simp, λh => absurd L h, λ_ => A, .inl A.2, by rw [A.2]; simp⟩, stp⟩)
      · refine rld (B := z) rfl (ite (λ(h5 : 0 <= d) => ?_) (λ(h5 : ¬ 0 <= d) => C _ stp λe => by have := e.2.2.1.1; dsimp only at this; omega))
        refine rld (B := z) rfl (ite (λ(h6 : d <= 400) => ?_) (λ(h6 : ¬ d <= 400) => C _ stp λe => by have := e.2.2.1.2; dsimp only at this; omega));refine rld (B := z) rfl (ite (λ(h7 : (sn : Int) <= 100) => ?_) (λ(h7 : ¬ (sn : Int) <= 100) => C _ stp λe => by have := e.2.2.2.1; omega))
        have go : (l = [] \/ d = 0) -> ∀ {u : World} {v : Value}, Tells (∃ y ∈ l, ¬ HitOk y) v -> ∃ b : Bool, v = .bool b /\ Tells (RepOk ⟨id, o, true, d, H, sn, I⟩ l) (.bool (!b)) := by
          rintro ho u v (⟨rfl, y, N, O⟩ | ⟨rfl, hy⟩)
          · exact ⟨true, rfl, .f λe => O (e.2.2.2.2.2.2.2 y N)⟩
          · exact ⟨false, rfl, .t ⟨p.1, p.2, ⟨h5, h6⟩, by omega, λh => absurd L h, (λh => nomatch h), ho, λy Q => Q2.1 λh => hy ⟨y, Q, h⟩⟩⟩
        refine rld (B := z) rfl (ite (λ(R : d = 0) => ?_) (λ(R : ¬ d = 0) => ?_))
        · refine rld (B := z) rfl (rcall (zA9 (h.up (w' := J)) W) ?_)
          rintro v S ⟨T, e4⟩;have M := go (.inr R) (u := S) T;obtain ⟨b, rfl, U⟩ := M;exact ⟨U, stp⟩
        · refine rld (B := z) rfl ?_
          refine ite (λ(h9 : (sn : Int) = 0) => ?_) (λ(h9 : ¬ (sn : Int) = 0) => C _ stp λe => by
            have M := e.2.2.2.2.2.2.1;rcases M with V | V
            · rw [V] at r; simp at r; omega
            · exact R V)
          refine rld (B := z) rfl (rcall (zA9 (h.up (w' := J)) W) ?_);rintro v S ⟨T, e4⟩;have M := go (.inl (X (by omega))) (u := S) T;obtain ⟨b, rfl, U⟩ := M;exact ⟨U, stp⟩
def digs (n:Nat):List (Nat×Bool):=if h:n<128 then [(n,false)] else (n % 128,true)::digs (n / 128)
termination_by n
decreasing_by omega
theorem zH1(h:n<128):digs n=[(n,false)]:=by rw [digs,dif_pos h]
theorem zH0(h:¬n<128):digs n=(n % 128,true)::digs (n / 128):=by rw [digs,dif_neg h]
def dgV (p:Nat×Bool):List Value:=[.int .i64 (p.1:Int),.bool p.2]
def dgB (p:Nat×Bool):UInt8:=UInt8.ofNat (if p.2 then p.1+128 else p.1)
theorem zID(n:Nat):(digs n).map dgB=numB n:=by
 induction n using Nat.strongRecOn with
 |ind n b =>
  by_cases h:n<128
  ·rw [zH1 h,numB_lt h];rfl
  ·rw [zH0 h,zBu h,QS,b (n / 128) (by omega)];congr 1;show UInt8.ofNat (n % 128+128)=_;rw [Xv]
theorem zMX(n:Nat):∀p∈digs n,p.1<128:=by
 induction n using Nat.strongRecOn with
 |ind n c =>
  by_cases h:n<128
  ·rw [zH1 h];intro p b;simp at b;subst b;exact h
  ·rw [zH0 h];intro p b;have d:=Ql.1 b;rcases d with rfl|b
   ·show n % 128<128;omega
   ·exact c (n / 128) (by omega) p b
theorem zOz(h:n<=2147483647):(digs n).length<=5:=by
 have:=zAm h;rw [<-zID,Qr] at this;exact this
abbrev DgQ (b:Nat) (u u':World):Prop:=Fr (λi=>i=b) u u'/\∃x,Bk u b [.int .i64 x] E.qb
abbrev DgR (b:Nat) (u u':World):Prop:=∀x,Bk u b [.int .i64 x] E.qb->Bk u' b [.int .i64 x] E.qb
theorem zMW{b:Nat}(A:n<=2147483647):SeqG PP F.qt [] [.pointer (some ⟨b,0,none⟩)] (DgQ b) (DgR b) (λu=>Bk u b [.int .i64 (n:Int)] E.qb)
  (λys x _=>∃rest,ys++x::rest=(digs n).map dgV) (λys=>ys=(digs n).map dgV):=by
 refine⟨λy J N w C D t h0 G=>?_⟩;refine eN ?_;refine loop0 TBok 4 [2,3] (λu=>∃ys m:_,ys++(digs m).map dgV=(digs n).map dgV/\J ys u/\Bk u b [.int .i64 ((m:Nat):Int)] E.qb/\m<=2147483647) (cellN b) rfl ⟨[],n,rfl,h0,G,A⟩ ?_;rintro g u ⟨ys,m,c,H,B,O⟩;refine rX B rfl (rremE (z:=((m % 128:Nat):Int)) (by omega) (by omega) (by omega) ?_);refine rX B rfl (rdivE (q:=((m / 128:Nat):Int)) (by omega) (by rw [Xp (by omega)];omega) (by omega) ?_);refine rS B [.int .i64 _] (zAa _) λv l I=>rX l rfl ?_;have e:=C _ _ _ H ⟨I,_,B⟩;refine ite (λhgt=>?_) (λK=>?_)
 ·have hd:=zH0 (n:=m) (by omega);refine ryield (vs:=dgV (m % 128,true)) rfl rfl rfl rfl (t ys v _ ⟨(digs (m / 128)).map dgV,by rw [<-c,hd];rfl⟩ e) ?_;rintro L M ⟨⟨rfl,d⟩|⟨rfl,o⟩,p⟩
  ·have f:=p _ l;refine rX f rfl (iF (by omega) ?_);refine⟨⟨ys++[dgV (m % 128,true)],m / 128,by rw [Qp,<-c,hd];rfl,d,f,by omega⟩,?_⟩;rw [zJM f,zJM B];omega
  ·exact .inr o
 ·have hd:=zH1 (n:=m) (by omega);have r:m % 128=m:=by omega
  refine ryield (vs:=dgV (m,false)) rfl rfl rfl (by rw [<-r];exact congrArg (λq:Nat=>[Value.int .i64 (q:Int),.bool false]) (by omega)) (t ys v _ ⟨[],by rw [<-c,hd];rfl⟩ e) ?_;rintro L M ⟨⟨rfl,d⟩|⟨rfl,o⟩,p⟩
  ·have f:=p _ l;refine rX f rfl (iT (by omega) (.inl ⟨_,?_,d⟩));rw [<-c,hd];rfl
  ·exact .inr o
theorem zIw{n:Int}{w:World}:Sp PP F.cv #[.int .i64 n] w λv w'=>(∃b,v=.func (.func F.qt) #[] #[.pointer (some ⟨b,0,none⟩)]/\w.heap.size<=b/\Bk w' b [.int .i64 n] E.qb)/\Stp w w':=by
 refine eN ?_;refine rbx λc w1 n1 d=>?_;exact⟨⟨c,rfl,n1.lo,d⟩,stp⟩
theorem zIv{n : Int}{w : World} : Sp PP F.yy #[.int .i64 n] w λv w' => v = numV n /\ Stp w w' := by
  have K : ¬ (0 <= n /\ n <= 2147483647) -> numV n = .tuple #[txt [], .int .i64 1] := λh => if_neg h;refine eN ?_;refine ite (λh => ⟨(K (by omega)).symm, stp⟩) (λo => ?_);refine ite (λh => ⟨(K (by omega)).symm, stp⟩) (λG => ?_);have ok : numV n = .tuple #[txt (numB n.toNat), .int .i64 0] := if_pos (by omega);clear K;have C : ∃ N : Nat, n = (N : Int) := ⟨n.toNat, by omega⟩;obtain ⟨N, rfl⟩ := C;rw [QW] at ok;have W : N <= 2147483647 := by omega
  have a1 := zOz W;refine ral λb4 w1 n1 B4 => (rcall (zIw (n := (N : Int))) ?_);rintro v w2 ⟨⟨L, rfl, M, Bd⟩, e2⟩;have C4 := B4.mv (w := w2);have a4 := n1.b; have a5 := n1.s;have z2 := Le.size (a := w) (b := w2)
  refine rrangeG TBok rfl (gf := F.qt) (first := []) (cap := [.pointer (some ⟨L, 0, none⟩)]) (Rc := λc u => (∃ D, Fr D c u) /\ DgR L c u) rfl rfl (zMW (b := L) W)
    (by rintro ys x _ ⟨rest, h⟩
        have : x ∈ (digs N).map dgV := by rw [<- h]; simp
        have C := Qq.1 this;obtain ⟨p, _, rfl⟩ := C;rfl) (λu u' h => ⟨_, h.1⟩)
    (λys u => ∃ k, ys = ((digs N).take k).map dgV /\ k <= (digs N).length /\ ∃ oa on oc, Bk u b4 [.slice oa on oc] E.ym /\ Own w.heap.size E.yb u (.slice oa on oc) (((digs N).take k).map dgB) /\ Stp w u) (λ_ _ => False)
    ?_ ?_ ?_ ?_ ?_ (λc u h => h.1) (λw' e => by have := Bd.fr e id; exact this) ⟨0, rfl, by omega, none, 0, 0, C4, Own.nil _ _ _, stp⟩ ?_ ?_ ?_
  · rintro ys u u' ⟨k, o, G, oa, on, oc, l, f, A⟩ q; exact ⟨k, o, G, oa, on, oc, l.qt q, f.qt q, A.qt (q.mono z2)⟩
  · rintro _ u u' h; exact h.elim
  · rintro ys u u' _ ⟨k, o, G, oa, on, oc, l, f, A⟩ ⟨q, x, O⟩
    exact ⟨k, o, G, oa, on, oc, l.fr q (by omega), f.frc q O (by decide), ⟨Fr.st A.e q λi hi => by subst hi; exact Qw (by omega) M⟩⟩
  · rintro _ u u' _ h; exact h.elim
  · rintro u c u2 u3 q1 ⟨_, r⟩ q2 x B; exact (r x (B.qt q1)).qt q2
  · rintro ys x u ⟨rest, X⟩ _ ⟨k, o, G, oa, on, oc, l, f, A⟩
    have H : k < (digs N).length := by
      have C := QH k (digs N).length;rcases C with h | h
      · exact h
      · exfalso
        have := congrArg List.length X;rw [o] at this;simp at this; omega
    have Y : x = dgV (digs N)[k] := by
      have Q : ys.length = k := by rw [o, Qr, Qm]; omega
      have Z : (((digs N).map dgV))[k]? = some x := by rw [<- X, <- Q, Xk (Qe _)]; simp
      rw [QK, Qd H] at Z;exact (QL Z).symm
    have R := take_add H;have t := zMX N _ (Qa H);have C : ∃ p, p = (digs N)[k] := ⟨_, rfl⟩;obtain ⟨⟨d, m⟩, S⟩ := C;rw [<- S] at Y R t;subst Y;refine ⟨Fr.refl _ _, λu1 q => ?_⟩;have l := l.qt q; have f := f.qt q; have A := A.qt (q.mono z2);have a0 : (((digs N).take k).map dgB).length <= 5 := by rw [Qr, Qm]; omega
    have T : ys ++ [dgV (d, m)] = ((digs N).take (k + 1)).map dgV := by rw [o, R]; simp
    have U : ((digs N).take k).map dgB ++ [dgB (d, m)] = ((digs N).take (k + 1)).map dgB := by rw [R]; simp
    cases m
    case' false =>
      refine rld (B := l) rfl (rconvE (z := ((dgB (d, false)).toNat : Int)) (zF2 (x := d) (by dsimp only at t; omega)) (rbs1 (dgB (d, false)) rfl rfl (by decide) λb6 I e6 _ S6 => ?_))
    case' true =>
      refine rarE (y := ((d + 128 : Nat) : Int)) (by omega) (by dsimp only at t; omega) (rld (B := l) rfl (rconvE (z := ((dgB (d, true)).toNat : Int)) (zF2 (x := d + 128) (by dsimp only at t; omega)) (rbs1 (dgB (d, true)) rfl rfl (by decide) λb6 I e6 _ S6 => ?_)))
    all_goals
      refine rapp1 (u := w) ⟨rfl, rfl⟩ (f.up (w' := I)) S6 (by omega) λv7 w7 V f7 s7 => ?_;have r1 := (l.mv (w := I)).fro (f.up (w' := I)) f7 (by decide);rw [U] at V;have q7 := V.shape;obtain ⟨a7, c7, rfl⟩ := q7;refine rsto (B := r1) (vs := [.slice a7 _ c7]) rfl rfl rfl (by simp; rfl) λw8 B8 J _ => ?_;have s8 : Stp w w8 := ⟨Fr.st Le.e J λi hi => by subst hi; exact n1.lo⟩;refine ⟨⟨k + 1, T, H, a7, _, c7, B8, V.frc J r1 (by decide), s8⟩, ⟨λi => w.heap.size <= i, ((Fr.fr e6.e).trans s7.e).trans (J.mono λi _ hi => by subst hi; exact n1.lo)⟩, λx O => ?_⟩;have k1 := (O.mv (w := I)).fro (f.up (w' := I)) f7 (by decide);exact k1.fr J (by omega)
  · rintro ys D u hE ⟨k, o, G, oa, on, oc, l, f, A⟩ hD hd
    have H : k = (digs N).length := by
      have := congrArg List.length (o.symm.trans hE);simp at this; omega
    subst H;rw [Qj (Qe _), zID] at f;refine rld (B := l) rfl (rbstr f.sl ?_);refine leave1 hd λu' q => ?_;exact ⟨ok.symm, A.qt (q _ (by omega))⟩
  · rintro c D u h; exact h.elim
end Go.W
namespace Go.Proofs
open Go.Shelf
def Tryz.bld_ren:Go.Shelf.Ren:=⟨fun|166=>210|240=>294|276=>362|169=>117|n=>n,fun|0=>0|3=>3|4=>4|5=>5|9=>9|20=>20|37=>201|70=>200|72=>203|75=>300|80=>162|127=>303|164=>422|n=>n,fun|n=>n⟩
theorem Tryz.bldW:Go.Proofs.Lays.n166 Tryz.prog Tryz.bld_ren:={
 mixed:=by kernel_rfl
 f166:=W.ff Tryz.func210
 f240:=W.ff Tryz.func294
 f276:=W.ff Tryz.func362
 t0:=Tryz.underlying0
 a0:=Tryz.isAgg0
 z0:=Tryz.sizeOf0
 v0:=Tryz.zeroValue0
 t3:=Tryz.underlying3
 a3:=Tryz.isAgg3
 z3:=Tryz.sizeOf3
 v3:=Tryz.zeroValue3
 t4:=Tryz.underlying4
 a4:=Tryz.isAgg4
 z4:=Tryz.sizeOf4
 v4:=Tryz.zeroValue4
 t9:=Tryz.underlying9
 a9:=Tryz.isAgg9
 z9:=Tryz.sizeOf9
 v9:=Tryz.zeroValue9
 t20:=Tryz.underlying20
 a20:=Tryz.isAgg20
 z20:=Tryz.sizeOf20
 v20:=Tryz.zeroValue20
 t37:=Tryz.underlying201
 a37:=Tryz.isAgg201
 z37:=Tryz.sizeOf201
 v37:=Tryz.zeroValue201
 t70:=Tryz.underlying200
 a70:=Tryz.isAgg200
 z70:=Tryz.sizeOf200
 v70:=Tryz.zeroValue200
 t72:=Tryz.underlying203
 a72:=Tryz.isAgg203
 z72:=Tryz.sizeOf203
 v72:=Tryz.zeroValue203
 t75:=Tryz.underlying300
 a75:=Tryz.isAgg300
 z75:=Tryz.sizeOf300
 v75:=Tryz.zeroValue300
 t164:=Tryz.underlying422
 a164:=Tryz.isAgg422
 z164:=Tryz.sizeOf422
 v164:=Tryz.zeroValue422 }
theorem Tryz.bldS:Go.Proofs.Lays.n169 Tryz.prog Tryz.bld_ren:={
 mixed:=by kernel_rfl
 f169:=W.ff Tryz.func117
 t0:=Tryz.underlying0
 a0:=Tryz.isAgg0
 z0:=Tryz.sizeOf0
 v0:=Tryz.zeroValue0
 t3:=Tryz.underlying3
 a3:=Tryz.isAgg3
 z3:=Tryz.sizeOf3
 v3:=Tryz.zeroValue3
 t9:=Tryz.underlying9
 a9:=Tryz.isAgg9
 z9:=Tryz.sizeOf9
 v9:=Tryz.zeroValue9
 t37:=Tryz.underlying201
 a37:=Tryz.isAgg201
 z37:=Tryz.sizeOf201
 v37:=Tryz.zeroValue201
 t70:=Tryz.underlying200
 a70:=Tryz.isAgg200
 z70:=Tryz.sizeOf200
 v70:=Tryz.zeroValue200
 t72:=Tryz.underlying203
 a72:=Tryz.isAgg203
 z72:=Tryz.sizeOf203
 v72:=Tryz.zeroValue203
 t127:=Tryz.underlying303
 a127:=Tryz.isAgg303
 z127:=Tryz.sizeOf303
 v127:=Tryz.zeroValue303 }
theorem Tryz.bldX:Builder.Extra Tryz.prog Tryz.bld_ren:={
 sizeBuilder:=by kernel_rfl
 liesBuilder:=by kernel_rfl
 t5:=Tryz.underlying5
 a5:=Tryz.isAgg5
 z5:=Tryz.sizeOf5
 v5:=Tryz.zeroValue5
 infoByte:=by kernel_rfl
 cellsByte:=by kernel_rfl
 sizeByte:=by kernel_rfl
 neB5:=by decide }
end Go.Proofs
namespace Go.W
open Go Go.Proofs
open Enc (enc)
set_option maxRecDepth 10000
variable {B i j k m n n2 n3:Nat} {P:Program} {a a2 a3:Option Addr} {g:GrD} {ps:List Int} {q:QyD} {s:List UInt8} {u u' w' w1 w2:World}
theorem SlY.frB{α:Type}[Enc α]{e T:TypeId}{b:Nat}{o:List TypeId}{w:World}{v:Value}{l:List α}(h:SlY e w v l)(f:FrX (λi=>i=b) B o w w')(p:∃c z,w.heap[b]? = some (.cells c T z))(r:T≠e)(t:e∉o):SlY e w' v l:=
 h.fr f (by
  rintro g cs z A d (rfl|x)
  ·obtain⟨c,C,y⟩:=p;rw [y] at d;cases d;exact r rfl
  ·exact t (x.cells d))
abbrev BldR (B b:Nat) (l:List UInt8) (w:World):Prop:=BldB E.yl E.yb B b l w
abbrev BldF (B b:Nat) (w w':World):Prop:=FrX (λi=>i=b) B [E.yb] w w'
theorem zGF{b:Nat}{l m:List UInt8}{w:World}(h:BldR B b l w)(d:B<=w.heap.size)(c:l.length+m.length<=140737488355328):
  Sp PP F.qd #[.pointer (some ⟨b,0,none⟩),txt m] w λv w'=>v=.tuple #[.int .i64 m.length,.nilIface]/\BldR B b (l++m) w'/\BldF B b w w':=
 zNy (f:=F.qd) Tryz.bldW Tryz.bldX rfl rfl rfl (FnAt.can (f:=F.qd) inferInstance) h d c
theorem zCz{b:Nat}{l:List UInt8}{w:World}(h:BldR B b l w)(c:B<=w.heap.size):
  Sp PP F.qg #[.pointer (some ⟨b,0,none⟩)] w λv w'=>v=txt l/\BldR B b l w'/\BldF B b w w':=
 zMR (f:=F.qg) Tryz.bldS Tryz.bldX rfl rfl rfl (FnAt.can (f:=F.qg) inferInstance) h c
theorem zJz{n:Int}{w:World}:Sp PP F.yy #[.int .i64 n] w λv w'=>(∃e:Int,v=.tuple #[txt (if 0<=n/\n<=2147483647 then numB n.toNat else []),.int .i64 e])/\Stp w w':=
 zIv.mono λ_ _ b=>⟨by
  rw [b.1];unfold numV;split
  ·exact⟨0,rfl⟩
  ·exact⟨1,rfl⟩,b.2⟩
theorem zC1{b:Nat}{bs:List UInt8}{c:Nat}{l:List Int}{w:World}(r:BldR B b bs w)(h:SlY E.qb w (.slice a n c) l)(A:B<=w.heap.size)(K:l.length<=1000000)(L:bs.length<=1000000000):
  Sp PP F.qa7 #[.pointer (some ⟨b,0,none⟩),.slice a n c] w λv w'=>v=.tuple #[]/\BldR B b (bs++numsB l) w'/\BldF B b w w':=by
 have o:=h.len;obtain rfl:=o;refine eN ?_;refine cnt TBok 11 [4,5,6,7] 10 l.length (λk u=>BldR B b (bs++numsB (l.take k)) u/\BldF B b w u) rfl rfl ⟨by simpa [numsB] using r,FrX.refl _ _ _ _⟩ ?_;rintro k g u M ⟨p,f⟩;refine ite (λhlt=>?_) (λC=>?_)
 ·have d:k<l.length:=by omega
  have t:=zHx d;have D:=zAt (l.take (k+1));rw [Qm,t,Qb] at D;have G:=h.frB f r.obj (by decide) (by decide);refine rix G.sl (x:=l[k]) (by simp) λN O H=>rload1 (H.cell0 rfl) (rcall (zJz (n:=l[k])) ?_);rintro _ I ⟨⟨Q,rfl⟩,y⟩;refine rcall (zGF (p.up (w':=I)) (Qw A (Qw f.size y.e.size)) (by rw [Qb];omega)) ?_;rintro _ R ⟨rfl,z,J⟩;rw [Qp,<-t] at z;refine rA ⟨rfl,d,z,(f.trans (FrX.ext y.e)).trans J⟩
 ·have o:k=l.length:=by omega
  obtain rfl:=o;rw [Qj (Qe _)] at p;exact⟨rfl,p,f⟩
theorem SlY.of_new{α:Type}[Enc α]{e:TypeId}{w:World}{b:Nat}{cs:Array Value}{xs:List α}(h:SlF w' (.slice (some ⟨b,0,none⟩) n n) xs)(N:New w w' b cs e):SlY e w' (.slice (some ⟨b,0,none⟩) n n) xs:=⟨h,.inr ⟨b,_,_,rfl,N.blk⟩⟩
theorem zCB{x:RepD}{l:List HitD}{w:World}(h:SlF w (.slice x.a.s.a x.a.s.n x.a.s.c) l)(hn:l.length<=1000000):
  Sp PP F.dg #[agg x] w λv w'=>((RepOk x l/\v=.tuple #[txt (encR x l),.int .i64 0])\/(¬RepOk x l/\v=.tuple #[txt [],.int .i64 1]))/\Stp w w':=by
 obtain⟨id,f,O,o,D,sn,G⟩:=x;have r:sn=l.length:=h.len;refine eN ?_;refine rbx λb1 w1 n1 Q=>rG Q (⟨id,f,O,o,D,sn,G⟩:RepD) (rcall (zH3 (x:=⟨id,f,O,o,D,sn,G⟩) (h.up (w':=w1)) hn) ?_);rintro v w2 ⟨⟨rfl,p⟩|⟨rfl,p⟩,e2⟩
 case' inr=>exact⟨.inr ⟨p,rfl⟩,stp⟩
 have z2:=lz w w2;refine ral λT w3 n3 B3=>?_;have a9:=n1.b;have b0:=n1.s;have b2:=n3.b;have b3:=n3.s;have b4:=lz w1 w2;have U:w.heap.size<=T:=by omega
 have L0:BldR w.heap.size T [] w3:=zPy U B3;clear B3;refine rX Q rfl (rX Q rfl (rbs (α:=Int) [id,f] rfl (vs:=[.int .i64 id,.int .i64 f]) rfl rfl (by decide) λb5 R n5 S5=>?_));have s5:Stp w3 R:=⟨n5.ext⟩;have z5:=lz w R;refine rcall (zC1 (L0.up (w':=R)) (SlY.of_new S5 n5) z5 (by simp) (by simp)) ?_;rintro _ w6 ⟨rfl,V,f6⟩;rw [Je] at V;have s6:Stp w w6:=⟨FrX.st Le.e f6 (Qe _) λi hi=>by omega⟩;have z6:=s6.e.size;have z:=(Q.mv (w:=R)).keptX f6 (by omega) (by decide);refine rX z rfl ?_;have q1:=zAt [id,f];simp only [QA,QZ] at q1;refine ite (λS=>?_) (λS=>?_)
 ·have hv:Value.tuple #[txt (numsB [id,f]),.int .i64 0]=.tuple #[txt (encR ⟨id,f,O,o,D,sn,G⟩ l),.int .i64 0]:=by
   unfold encR;rw [if_pos S,QE]
  refine rcall (zCz V z6) ?_;rintro _ w7 ⟨rfl,L7,f7⟩;exact⟨.inl ⟨p,hv⟩,⟨FrX.st s6.e f7 (Qe _) λi hi=>by omega⟩⟩
 refine rX z rfl ?_;cases O
 case' false =>
  refine rX z rfl (rX z rfl (rbs (α:=Int) [0,o,(sn:Int)] rfl (vs:=[.int .i64 0,.int .i64 o,.int .i64 (sn:Int)]) rfl rfl (by decide) λb8 H W S8=>?_));have q2:=zAt [0,o,(sn:Int)]
  have t:numsB [id,f]++numsB [0,o,(sn:Int)]++hitsB l=encR ⟨id,f,false,o,D,sn,G⟩ l:=by
   unfold encR;rw [if_neg S,r,Qp];rfl
 case' true =>
  refine rX z rfl (rX z rfl (rbs (α:=Int) [1,o,(sn:Int)] rfl (vs:=[.int .i64 1,.int .i64 o,.int .i64 (sn:Int)]) rfl rfl (by decide) λb8 H W S8=>?_));have q2:=zAt [1,o,(sn:Int)]
  have t:numsB [id,f]++numsB [1,o,(sn:Int)]++hitsB l=encR ⟨id,f,true,o,D,sn,G⟩ l:=by
   unfold encR;rw [if_neg S,r,Qp];rfl
 all_goals
  have s8:Stp w6 H:=⟨W.ext⟩;have z8:=lz w H;simp only [QA,QZ] at q2;refine rcall (zC1 (V.up (w':=H)) (SlY.of_new S8 W) z8 (by simp) (by omega)) ?_;rintro _ w9 ⟨rfl,L9,f9⟩;have s9:Stp w w9:=⟨FrX.st Le.e f9 (Qe _) λi hi=>by omega⟩;have z9:=s9.e.size;have C9:=(z.mv (w:=H)).keptX f9 (by omega) (by decide);refine rX C9 rfl (cnt TBok 39 [7] 38 l.length (λk u=>BldR w.heap.size T (numsB [id,f]++numsB _++hitsB (l.take k)) u/\Stp w u) rfl rfl ⟨by simpa [hitsB] using L9,s9⟩ ?_);rintro k g u hk ⟨X,eu⟩;refine ite (λhlt=>?_) (λY=>?_)
  ·have I:k<l.length:=by have a7:(k:Int)<(sn:Int):=hlt;omega
   have Z:∃y,l[k]? = some y:=⟨_,Qd I⟩;obtain⟨y,hy⟩:=Z;refine rix (h.up (w':=u)) (x:=y) hy λb7 o7 A7=>rloadA A7 rfl (ral λa0 b6 a1 J=>rE J y λA K L=>?_);have b9:Stp u A:=a1.st L;have BH:Bk A a0 [.int .i64 y.v,.int .i64 y.d] E.qi:=K;clear K J L;refine rX BH rfl (rX BH rfl (rbs (α:=Int) [y.v,y.d] rfl (vs:=[.int .i64 y.v,.int .i64 y.d]) rfl rfl (by decide) λc0 C M a4=>?_));have c1:Stp A C:=⟨M.ext⟩;have q3:=zAt [y.v,y.d];have q4:=zFi (l.take k);simp only [QA,QZ,Qm] at q3 q4;refine rcall (zC1 (X.up (w':=C)) (SlY.of_new a4 M) (lz w C) (by simp) (by rw [Qb,Qb];omega)) ?_;rintro _ c2 ⟨rfl,N,a5⟩;rw [Qp,<-zEj hy] at N;refine rA ⟨rfl,I,N,⟨FrX.st Le.e a5 (Qe _) λi hi=>by omega⟩⟩
  ·have a8:¬(k:Int)<(sn:Int):=Y;have Z:k=l.length:=by omega
   obtain rfl:=Z;rw [Qj (Qe _),t] at X;refine rcall (zCz X eu.e.size) ?_;rintro _ c3 ⟨rfl,c4,a6⟩;exact⟨.inl ⟨p,rfl⟩,⟨FrX.st eu.e a6 (Qe _) λi hi=>by omega⟩⟩
theorem zKH{p r:List UInt8}:RdAt (p++r) p.length n↔n<=2147483647/\∃t,r=numB n++t:=by
 unfold RdAt;rw [V0]


theorem zBl{bx be:Nat}{w:World}:SpD PP F.qj #[.pointer (some ⟨bx,0,none⟩),.pointer (some ⟨be,0,none⟩)] .returning w λu' w'=>u'=.returning/\w'=w:=by
 refine SpD.enter TBok rfl rfl rfl rfl rfl rfl rfl (λ_ _=>rfl) rfl rfl ?_;refine rtaN ?_;exact⟨rfl,rfl,rfl⟩
theorem zBk{bx be:Nat}{x:RReq}{e:Int}{w:World}(f:Bk w bx (enc x) E.qa)(l:Bk w be [.int .i64 e] E.qq)(b:¬be=bx):
  SpD PP F.qj #[.pointer (some ⟨bx,0,none⟩),.pointer (some ⟨be,0,none⟩)] (.panicking PanF) w λu' w'=>settle u'=.returning/\Bk w' bx (enc zRq) E.qa/\Bk w' be [.int .i64 220] E.qq/\Fr (λi=>i=bx\/i=be) w w':=by
 refine SpD.enter TBok rfl rfl rfl rfl rfl rfl rfl (λ_ _=>rfl) rfl rfl ?_;refine rta (ral λr w1 n1 z1=>rG z1 zRq (rE (f.mv (w:=w1)) zRq λw2 o c=>rS ((l.mv (w:=w1)).fr c b) [.int .i64 220] (zAa _) λt p d=>?_));exact⟨rfl,rfl,o.fr d (λh=>b h.symm),p,((fE w w1).trans (c.mono λi _ hi=>.inl hi)).trans (d.mono λi _ hi=>.inr hi)⟩
theorem zOZ{d:RqD}(h:rdR s=some (d,[]))(hd:RqIs d):reqOf s=some d:=by
 unfold reqOf;rw [h];simp only;rw [if_pos hd]
theorem zPV(h:∀d t,rdR s=some (d,t)->¬RqIs d):reqOf s=none:=by
 unfold reqOf;split
 ·rename_i x b;rw [if_neg (h _ _ b)]
 ·rfl
theorem zPW{t:List UInt8}{d:RqD}(h:rdR s=some (d,t))(c:t≠[]):reqOf s=none:=by
 unfold reqOf;split
 ·rename_i x b;rw [h] at b;cases b;exact absurd rfl c
 ·rfl
abbrev GetReq (s:List UInt8) (B:Nat) (v:Value) (w':World):Prop:=
 (∃d x,reqOf s=some d/\v=.tuple #[agg x,.int .i64 0]/\RqO B w' x d)\/(reqOf s=none/\v=.tuple #[agg zRq,.int .i64 220])
theorem zDK{w:World}(hs:s.length<=4611686018427387904):Sp PP F.zv #[txt s,.func (.func F.qx) #[] #[]] w λv w'=>GetReq s w.heap.size v w'/\Stp w w':=by
 refine eN ?_;refine ral λbx w1 n1 z1=>ral λbe w2 n2 z2=>?_;have a0:=n1.b;have a1:=n1.s;have a4:=n2.b;have a5:=n2.s;refine rbuild (cs:=[txt s,.int .i64 0]) rfl (rbx λA J n3 Z=>?_);have a6:=n3.b;have R3:FrB J A s 0:=Z;clear Z;have X3:Bk J bx (enc zRq) E.qa:=z1.mv;have E3:Bk J be [.int .i64 0] E.qq:=z2.mv;have a7:=lz w J;have f:¬be=bx:=by omega
 have pan:∀{G:Nat->Value} {u:World} {x:RReq},Bk u bx (enc x) E.qa->Bk u be [.int .i64 0] E.qq->Stp w u->reqOf s=none->ev G (.tmp 4)=.pointer (some ⟨bx,0,none⟩)->ev G (.tmp 5)=.pointer (some ⟨be,0,none⟩) ->
   LeaveS PP [.cell 4 E.qa,.cell 5 E.qq] G [{ target:=.fn (.func F.qj) #[.pointer (some ⟨bx,0,none⟩),.pointer (some ⟨be,0,none⟩)],args:=#[] }] (.panicking PanF) (λv w'=>GetReq s w.heap.size v w'/\Stp w w') (λ_ _=>False) u:=by
  intro G u x X K e o g4 g5;refine zCL (by simp) ⟨(zBk X K f).can,zA8 (zBk X K f).calls ?_⟩;intro en u' w' N
  cases en with
  |returned v =>
   obtain⟨l,X',K,f'⟩:=N;show LeaveS PP _ _ [] (settle u') _ _ w';rw [l];refine leave_ret ?_;show resS PP [.cell 4 _,.cell 5 _] [] G _ w';simp only [resS,g4,g5];refine rresG (B:=X') rfl ?_;refine rres (B:=K) rfl ?_;exact⟨.inr ⟨o,rfl⟩,⟨Fr.st e.e f' λi hi=>by omega⟩⟩
  |panicked c=>exact N
  |outgrown=>exact N
 have C:∀i,i=A->w.heap.size<=i:=by omega
 have D:∀i,i=bx->w.heap.size<=i:=by omega
 have p:¬bx=A:=by omega
 have H:¬be=A:=by omega
 refine rcallP (zDJ (b:=A) R3 hs) ?_ ?_
 ·rintro _ O ⟨d,A4,x,r,Q,rfl,t,R4,y⟩;have R:Stp w O:=⟨Fr.st Le.e y C⟩;have X4:=X3.fr y p;have E4:=E3.fr y H;refine rE X4 x λw5 L M=>?_;have L:Bk w5 bx (enc x) E.qa:=L;have s5:Stp w w5:=⟨Fr.st R.e M D⟩;have E5:=E4.fr M f;have R5:=(Bk.fr R4 M (λh=>p h.symm));have O5:=t.2.2.2.2.2.1.frc M X4 (by decide);refine rcallP (zE4 R5) ?_ ?_
  ·rintro _ z ⟨rfl,hA,e6⟩
   have ht:rdR s=some (d,[]):=by
    have l:=r.2;rw [Jf,hA,Yh] at l;exact l
   have S:=L.mv (w:=z);refine rldG (ds:=enc x) (B:=S) rfl (Enc.len x) (rE S x λw7 T U=>?_);have T:Bk w7 bx (enc x) E.qa:=T;have s7:Stp w w7:=⟨Fr.st Le.e U D⟩;have E7:=(E5.mv (w:=z)).fr U f;have O7:=(O5.up (w':=z)).frc U S (by decide);refine rS E7 [.int .i64 0] (zAa _) λV E8 W=>?_;have X8:=T.fr W (λh=>f h.symm);have s8:Stp w V:=⟨Fr.st s7.e W λi hi=>by omega⟩;have O8:=O7.frc W E7 (by decide);refine zCL (by simp) ⟨(zBl (bx:=bx) (be:=be) (w:=V)).can,zA8 (zBl (bx:=bx) (be:=be) (w:=V)).calls ?_⟩;intro en u' w' Y
   cases en with
   |returned v =>
    obtain⟨rfl,rfl⟩:=Y;refine leave_ret ?_;refine rresG (B:=X8) rfl ?_;refine rres (B:=E8) rfl ?_;exact⟨.inl ⟨d,x,zOZ ht Q,rfl,t.1,t.2.1,t.2.2.1,t.2.2.2.1,t.2.2.2.2.1,O8.mono (by omega),t.2.2.2.2.2.2⟩,s8⟩
   |panicked c=>exact Y
   |outgrown=>exact Y
  ·rintro _ z ⟨rfl,hA,e6⟩
   have I:s.drop A4≠[]:=λh=>by
    have l:=congrArg List.length h;rw [QR,QZ] at l;have:=r.1;omega
   exact pan (L.mv (w:=z)) (E5.mv (w:=z)) stp (zPW (by have l:=r.2;rw [Jf] at l;exact l) I) rfl rfl
 ·rintro _ O ⟨rfl,o,y⟩;have R:Stp w O:=⟨Fr.st Le.e y C⟩;exact pan (X3.fr y p) (E3.fr y H) R (zPV o) rfl rfl
theorem zE3{w:World}(o:s.length<=4611686018427387904):Sp PP F.ph #[txt s] w λv w'=>GetReq s w.heap.size v w'/\Stp w w':=by
 refine eN ?_;refine ral λbx w1 n1 z1=>?_;have p:=n1.b;refine rcall (zDK o) ?_;rintro v w2 ⟨⟨d,x,r,rfl,O⟩|⟨h,rfl⟩,t⟩
 ·refine rE (z1.mv (w:=w2)) x λl c f=>?_;have c:Bk l bx (enc x) E.qa:=c;refine rresG (B:=c) rfl ?_;exact⟨.inl ⟨d,x,r,rfl,O.1,O.2.1,O.2.2.1,O.2.2.2.1,O.2.2.2.2.1,(O.2.2.2.2.2.1.frc f (z1.mv (w:=w2)) (by decide)).older,O.2.2.2.2.2.2⟩,⟨Fr.st Le.e f λi hi=>by omega⟩⟩
 ·refine rE (z1.mv (w:=w2)) zRq λl c f=>?_;have c:Bk l bx (enc zRq) E.qa:=c;refine rresG (B:=c) rfl ?_;exact⟨.inr ⟨h,rfl⟩,⟨Fr.st Le.e f λi hi=>by omega⟩⟩
theorem zLm{w:World}(d:s.length<=4611686018427387904):Sp PP F.qby #[txt s] w λv w'=>((∃n:Nat,idOf s=some n/\v=.tuple #[.int .i64 (n:Int),.bool true])\/(idOf s=none/\v=.tuple #[.int .i64 0,.bool false]))/\Stp w w':=by
 refine eN ?_;refine rcall (zCG (A:=0) d) ?_;rintro _ w1 ⟨⟨n,f,e,rfl⟩|⟨b,rfl⟩,h⟩
 ·have c:idOf s=some n:=by have:=e.2;rw [Jf] at this;unfold idOf;rw [this];rfl
  exact⟨.inl ⟨n,c,rfl⟩,stp⟩
 ·have c:idOf s=none:=by rw [Jf] at b;unfold idOf;rw [b];rfl
  exact⟨.inr ⟨c,rfl⟩,stp⟩
end Go.W
namespace Go.Proofs
open Go.Shelf
def Tryz.sortI_ren:Go.Shelf.Ren:=⟨fun|53=>145|64=>165|63=>233|78=>259|79=>260|70=>313|71=>314|72=>315|73=>316|74=>317|75=>318|59=>319|76=>320|77=>321|88=>369|89=>330|90=>331|91=>370|92=>371|68=>277|96=>394|n=>n,fun|22=>34|23=>3|3=>3|51=>256|0=>0|67=>334|69=>336|4=>4|61=>328|60=>327|44=>116|5=>5|9=>9|75=>386|79=>390|83=>433|84=>434|n=>n,fun|n=>n⟩
theorem Tryz.sortI:Go.Proofs.SlLaysN.n53 Tryz.prog Tryz.sortI_ren:={
 mixed:=by kernel_rfl
 f53:=⟨Tryz.f145.name,by decide,W.ff Tryz.func145⟩
 f59:=⟨Tryz.f319.name,by decide,W.ff Tryz.func319⟩
 f63:=⟨Tryz.f233.name,by decide,W.ff Tryz.func233⟩
 f64:=W.ff Tryz.func165
 f68:=⟨Tryz.f277.name,by decide,W.ff Tryz.func277⟩
 f70:=⟨Tryz.f313.name,by decide,W.ff Tryz.func313⟩
 f71:=⟨Tryz.f314.name,by decide,W.ff Tryz.func314⟩
 f72:=⟨Tryz.f315.name,by decide,W.ff Tryz.func315⟩
 f73:=⟨Tryz.f316.name,by decide,W.ff Tryz.func316⟩
 f74:=⟨Tryz.f317.name,by decide,W.ff Tryz.func317⟩
 f75:=⟨Tryz.f318.name,by decide,W.ff Tryz.func318⟩
 f76:=⟨Tryz.f320.name,by decide,W.ff Tryz.func320⟩
 f77:=⟨Tryz.f321.name,by decide,W.ff Tryz.func321⟩
 f78:=W.ff Tryz.func259
 f79:=W.ff Tryz.func260
 f88:=⟨Tryz.f369.name,by decide,W.ff Tryz.func369⟩
 f89:=W.ff Tryz.func330
 f90:=W.ff Tryz.func331
 f91:=⟨Tryz.f370.name,by decide,W.ff Tryz.func370⟩
 f92:=⟨Tryz.f371.name,by decide,W.ff Tryz.func371⟩
 f96:=⟨Tryz.f394.name,by decide,W.ff Tryz.func394⟩
 t0:=Tryz.underlying0
 a0:=Tryz.isAgg0
 z0:=Tryz.sizeOf0
 v0:=Tryz.zeroValue0
 t3:=Tryz.underlying3
 a3:=Tryz.isAgg3
 z3:=Tryz.sizeOf3
 v3:=Tryz.zeroValue3
 t4:=Tryz.underlying4
 a4:=Tryz.isAgg4
 z4:=Tryz.sizeOf4
 v4:=Tryz.zeroValue4
 t5:=Tryz.underlying5
 a5:=Tryz.isAgg5
 z5:=Tryz.sizeOf5
 v5:=Tryz.zeroValue5
 t9:=Tryz.underlying9
 a9:=Tryz.isAgg9
 z9:=Tryz.sizeOf9
 v9:=Tryz.zeroValue9
 t22:=Tryz.underlying34
 a22:=Tryz.isAgg34
 z22:=Tryz.sizeOf34
 v22:=Tryz.zeroValue34
 t23:=Tryz.underlying3
 a23:=Tryz.isAgg3
 z23:=Tryz.sizeOf3
 v23:=Tryz.zeroValue3
 t44:=Tryz.underlying116
 a44:=Tryz.isAgg116
 z44:=Tryz.sizeOf116
 v44:=Tryz.zeroValue116
 t51:=Tryz.underlying256
 a51:=Tryz.isAgg256
 z51:=Tryz.sizeOf256
 v51:=Tryz.zeroValue256
 t60:=Tryz.underlying327
 a60:=Tryz.isAgg327
 z60:=Tryz.sizeOf327
 v60:=Tryz.zeroValue327
 t61:=Tryz.underlying328
 a61:=Tryz.isAgg328
 z61:=Tryz.sizeOf328
 v61:=Tryz.zeroValue328
 t67:=Tryz.underlying334
 a67:=Tryz.isAgg334
 z67:=Tryz.sizeOf334
 v67:=Tryz.zeroValue334
 t69:=Tryz.underlying336
 a69:=Tryz.isAgg336
 z69:=Tryz.sizeOf336
 v69:=Tryz.zeroValue336
 t75:=Tryz.underlying386
 a75:=Tryz.isAgg386
 z75:=Tryz.sizeOf386
 v75:=Tryz.zeroValue386
 t79:=Tryz.underlying390
 a79:=Tryz.isAgg390
 z79:=Tryz.sizeOf390
 v79:=Tryz.zeroValue390
 t83:=Tryz.underlying433
 a83:=Tryz.isAgg433
 z83:=Tryz.sizeOf433
 v83:=Tryz.zeroValue433
 t84:=Tryz.underlying434
 a84:=Tryz.isAgg434
 z84:=Tryz.sizeOf434
 v84:=Tryz.zeroValue434 }
end Go.Proofs
namespace Go.W
open Go Go.Proofs
open Enc (enc)
set_option maxRecDepth 10000
variable {B i j k m n n2 n3:Nat} {P:Program} {a a2 a3:Option Addr} {g:GrD} {ps:List Int} {q:QyD} {s:List UInt8} {u u' w' w1 w2:World}
structure RPo where
 word:ByteArray
 pl:SV
instance:Enc RPo:=⟨2,λx=>[.string x.word,.slice x.pl.a x.pl.n x.pl.c],λ_=>rfl,by intro x u hu;simp at hu;rcases hu with rfl|rfl <;> rfl,by decide⟩
instance:LawfulBEq ByteArray where
 eq_of_beq h:=(zCh _ _).1 h
 rfl:=(zCh _ _).2 rfl
def plOf (g:GrD) (s:ByteArray):List Int:=((List.range g.n).filter λv=>(g.ws.getD v []).contains s).map λv:Nat=>(v:Int)
theorem zB6{s:ByteArray}{x:Int}:x∈plOf g s↔∃v:Nat,x=v/\v<g.n/\s∈g.ws.getD v []:=by
 unfold plOf;simp only [Qq,QC,Q0,VA];constructor
 ·rintro⟨v,⟨b,c⟩,rfl⟩;exact⟨v,rfl,b,c⟩
 ·rintro⟨v,rfl,b,c⟩;exact⟨v,⟨b,c⟩,rfl⟩
theorem zB9(g:GrD)(s:ByteArray):(plOf g s).length<=g.n:=by
 unfold plOf;rw [Qr];exact Qw (Qv _ _) (by simp)
structure PosM (w:World) (g:GrD) (ws:List ByteArray) (ps:List RPo):Prop where
 ris:ws.Pairwise ltW
 all:∀s,s∈ws↔∃l∈g.ws,s∈l
 len:ps.length=ws.length
 at':∀i (h:i<ps.length) (h':i<ws.length),ps[i].word=ws[i]/\SlF w ps[i].pl.v (plOf g ws[i])
theorem PosM.up{w:World}[Le w w']{b:List ByteArray}{ps:List RPo}(h:PosM w g b ps):PosM w' g b ps:=⟨h.ris,h.all,h.len,λi c d=>⟨(h.at' i c d).1,(h.at' i c d).2.up⟩⟩
theorem zIr{κ:Type}[DecidableEq κ](k:κ)(v:Value):∀m:List (κ×Value),(setM k v m).length<=m.length+1
 |[]=>by simp [setM]
 |(b,c)::r=>by
  unfold setM;split
  ·simp
  ·have:=zIr k v r;simp only [QA];omega
structure SetB (w:World) (b:Nat) (m:List (Int×Value)) (f:Int->Prop):Prop where
 mp:MapB PP E.qb w b m
 bool:∀p∈m,∃x:Bool,p.2=.bool x
 has:∀n,f n↔(n,Value.bool true)∈m
 len:m.length<=1000
theorem SetB.up{w:World}[Le w w']{b:Nat}{m:List (Int×Value)}{f:Int->Prop}(h:SetB w b m f):SetB w' b m f:=⟨h.mp.up,h.bool,h.has,h.len⟩
theorem SetB.look{w:World}{b:Nat}{m:List (Int×Value)}{f:Int->Prop}(h:SetB w b m f)(n:Int):(f n/\(getM m n).getD (.bool false)=.bool true)\/(¬f n/\(getM m n).getD (.bool false)=.bool false):=by
 have e:=h.mp.2
 cases c:getM m n with
 |none =>
  refine .inr ⟨λd=>?_,rfl⟩;have:=zAJ e ((h.has n).1 d);rw [c] at this;cases this
 |some v =>
  have l:=zAY c;have p:=h.bool _ l;obtain⟨x,o⟩:=p;simp only at o;subst o
  cases x with
  |true=>exact .inl ⟨(h.has n).2 l,rfl⟩
  |false =>
   refine .inr ⟨λd=>?_,rfl⟩;have:=zAJ e ((h.has n).1 d);rw [c] at this;cases this
theorem zER{c:Nat}{l:List Int}{w:World}(h:SlF w (.slice a n c) l)(L:l.length<=1000):
  Sp PP F.qao #[.slice a n c] w λv w'=>(∃b m,v=.map (some b)/\SetB w' b m (·∈l)/\w.heap.size<=b)/\Stp w w':=by
 have f:=h.len;obtain rfl:=f;refine eN ?_;refine rmkNB (kt:=E.qb) (κ:=Int) rfl λb w1 n1 y=>?_;have z:=n1.lo (u:=w);refine cnt TBok 9 [5] 9 l.length (λk u=>∃m,SetB u b m (·∈l.take k)/\m.length<=k/\Stp w u) rfl rfl ⟨[],⟨y,by simp,by simp,by simp⟩,by simp,stp⟩ ?_;rintro k g u M ⟨m,S,N,t⟩;refine ite (λhlt=>?_) (λA=>?_)
 ·have o:k<l.length:=by omega
  refine rix (h.up (w':=u)) (x:=l[k]) (by simp) λO Q C=>rload1 (C.cell0 rfl) (rupdB S.mp l[k] rfl λD G H _=>?_);have I:=zIr l[k] (.bool true) m
  have J:SetB D b (setM l[k] (.bool true) m) (·∈l.take (k+1)):=by
   refine⟨G,λp K=>?_,λx=>?_,by omega⟩
   ·obtain⟨p1,p2⟩:=p;have f:=(zAg S.mp.2).1 K;rcases f with ⟨_,r⟩|⟨_,r⟩
    ·exact⟨true,r⟩
    ·exact S.bool _ r
   ·rw [zAg S.mp.2,take_add o,Qf,Qc,S.has];constructor
    ·rintro(d|d)
     ·by_cases e:x=l[k]
      ·exact .inl ⟨e,rfl⟩
      ·exact .inr ⟨e,d⟩
     ·exact .inl ⟨d,rfl⟩
    ·rintro(⟨d,_⟩|⟨_,d⟩)
     ·exact .inr d
     ·exact .inl d
  exact rA ⟨rfl,o,_,J,by omega,⟨Fr.st t.e H λi hi=>by omega⟩⟩
 ·have f:k=l.length:=by omega
  obtain rfl:=f;rw [Qg] at S;exact⟨⟨b,m,rfl,S,z⟩,t⟩
theorem zHC{bs bo:Nat}{M mo:List (Int×Value)}{f g:Int->Prop}{w:World}(S:SetB w bs M f)(O:SetB w bo mo g):
  Sp PP F.q4 #[.map (some bs),.map (some bo)] w λv w'=>(∃b m,v=.map (some b)/\SetB w' b m (λn=>f n/\g n)/\w.heap.size<=b)/\Stp w w':=by
 refine eN ?_;refine rmkNB (kt:=E.qb) (κ:=Int) rfl λb w1 n1 M1=>?_;have hb:=n1.lo (u:=w);have W:=S.mp.2;have a5:=S.len;refine rnx rfl (rrangeM (S.mp.up (w':=w1)) λr w2 nr X _=>?_);have hr:=nr.b;have a6:=n1.b;have a7:=n1.s;have N:¬b=r:=by omega
 refine loop0G TBok 11 [6,7] (λi u=>∃(done rest:List (Int×Value)) (m:List (Int×Value)),rest.length=i/\(done++rest).Perm M/\SetB u b m (λn=>(n,Value.bool true)∈done/\g n)/\m.length<=done.length/\(∀p∈m,∃v,(p.1,v)∈done)/\ItB PP E.qb u r bs rest/\Stp w u) rfl
  ⟨_,[],M,[],rfl,.refl _,⟨M1.up,by simp,by simp,by simp⟩,by simp,by simp,X,stp⟩ ?_
 rintro i G u ⟨done,rest,m,hi,A,o,a8,Y,It,su⟩;refine rnx rfl (rnextM It (λD=>?_) λx v c V H hC f2 a9=>?_)
 ·subst D;rw [QE] at A;refine⟨⟨b,m,rfl,⟨o.mp,o.bool,λn=>?_,o.len⟩,hb⟩,su⟩;rw [<-o.has,S.has,A.mem_iff]
 ·have Z:(x,v)∈M:=A.mem_iff.1 (JJ _ (H.mem_iff.1 Qs));have t:=S.bool _ Z;obtain⟨Q,R⟩:=t;simp only at R;subst R;have s2:Stp w V:=⟨Fr.st su.e f2 λi hi=>by omega⟩;have I:MapB PP E.qb V b m:=o.mp.fr f2 N
  have J:(done++[(x,Value.bool Q)]++c).Perm M:=by
   rw [Qp];exact(Vp done H).trans A
  have a0:∀v,(x,v)∉done:=λv hv=>by
   have T:=(J.map (·.1)).nodup_iff.2 W;rw [QB,QB] at T;have:=(JU.1 (JU.1 T).1).2.2 x (Qq.2 ⟨_,hv,rfl⟩) x (by simp);exact this rfl
  have a1:=J.length_eq;simp only [Qb,QA,QZ] at a1;refine rnx rfl (rentryM hC ?_)
  have fin:∀(y:Bool) (h:World),(y=true↔Q=true/\g x)->MapB PP E.qb h b (setM x (.bool y) m)->Fr (λi=>i=b) V h->∃i',i'<i/\∃(done rest:List (Int×Value)) (m:List (Int×Value)),rest.length=i'/\(done++rest).Perm M/\SetB h b m (λn=>(n,Value.bool true)∈done/\g n)/\m.length<=done.length/\(∀p∈m,∃v,(p.1,v)∈done)/\ItB PP E.qb h r bs rest/\Stp w h:=by
   intro y h hy K C;have b0:=zIr x (.bool y) m;have a4:=H.length_eq;rw [QA] at a4;refine⟨c.length,by omega,done++[(x,.bool Q)],c,setM x (.bool y) m,rfl,J,⟨K,λp A=>?_,λn=>?_,by omega⟩,by simp;omega,λp A=>?_,hC.b.fr C (λe=>N e.symm) (λe=>by have:=S.mp.lt;omega),⟨Fr.st s2.e C λi hi=>by omega⟩⟩
   ·obtain⟨p1,p2⟩:=p;have t:=(zAg o.mp.2).1 A;rcases t with ⟨_,d⟩|⟨_,d⟩
    ·exact⟨y,d⟩
    ·exact o.bool _ d
   ·rw [zAg o.mp.2,Qf,Qc];constructor
    ·rintro⟨z|z,d⟩
     ·refine .inr ⟨λe=>?_,(o.has n).1 ⟨z,d⟩⟩;subst e;exact a0 _ z
     ·injection z with U L;injection L with L;subst U;exact .inl ⟨rfl,by rw [hy.2 ⟨L.symm,d⟩]⟩
    ·rintro(⟨z,d⟩|⟨z,d⟩)
     ·injection d with d;subst z;have t:=hy.1 d.symm;obtain⟨U,L⟩:=t;exact⟨.inr (by rw [U]),L⟩
     ·have t:=(o.has n).2 d;obtain⟨U,L⟩:=t;exact⟨.inl U,L⟩
   ·obtain⟨p1,p2⟩:=p;have t:=(zAg o.mp.2).1 A;rcases t with ⟨z,_⟩|⟨_,d⟩
    ·exact⟨.bool Q,by rw [z];simp⟩
    ·obtain⟨v,hv⟩:=Y _ d;exact⟨v,QN _ hv⟩
  cases Q with
  |true =>
   have OO:=O.up (w':=V);refine rlook OO.mp.l x rfl ?_;have t:=OO.look x;rcases t with ⟨hg,e⟩|⟨hg,e⟩
   ·rw [e];exact rupdB I x rfl λh K C _=>fin true h (by simp [hg]) K C
   ·rw [e];exact rupdB I x rfl λh K C _=>fin false h (by simp [hg]) K C
  |false =>
   exact rupdB I x rfl λh K C _=>fin false h (by simp) K C
end Go.W
namespace Go.Proofs
open Go.Shelf
def Tryz.sortT_ren:Go.Shelf.Ren:=⟨fun|54=>95|64=>165|65=>164|78=>259|79=>260|80=>250|81=>251|82=>252|83=>253|84=>254|85=>255|61=>256|86=>257|87=>258|93=>329|89=>330|90=>331|94=>332|95=>333|69=>334|97=>375|n=>n,fun|25=>38|26=>9|3=>3|51=>256|0=>0|67=>334|69=>336|4=>4|61=>328|60=>327|44=>116|5=>5|9=>9|75=>386|79=>390|83=>433|84=>434|n=>n,fun|n=>n⟩
theorem Tryz.sortT:Go.Proofs.SlLaysN.n54 Tryz.prog Tryz.sortT_ren:={
 mixed:=by kernel_rfl
 f54:=⟨Tryz.f95.name,by decide,W.ff Tryz.func95⟩
 f61:=⟨Tryz.f256.name,by decide,W.ff Tryz.func256⟩
 f64:=W.ff Tryz.func165
 f65:=⟨Tryz.f164.name,by decide,W.ff Tryz.func164⟩
 f69:=⟨Tryz.f334.name,by decide,W.ff Tryz.func334⟩
 f78:=W.ff Tryz.func259
 f79:=W.ff Tryz.func260
 f80:=⟨Tryz.f250.name,by decide,W.ff Tryz.func250⟩
 f81:=⟨Tryz.f251.name,by decide,W.ff Tryz.func251⟩
 f82:=⟨Tryz.f252.name,by decide,W.ff Tryz.func252⟩
 f83:=⟨Tryz.f253.name,by decide,W.ff Tryz.func253⟩
 f84:=⟨Tryz.f254.name,by decide,W.ff Tryz.func254⟩
 f85:=⟨Tryz.f255.name,by decide,W.ff Tryz.func255⟩
 f86:=⟨Tryz.f257.name,by decide,W.ff Tryz.func257⟩
 f87:=⟨Tryz.f258.name,by decide,W.ff Tryz.func258⟩
 f89:=W.ff Tryz.func330
 f90:=W.ff Tryz.func331
 f93:=⟨Tryz.f329.name,by decide,W.ff Tryz.func329⟩
 f94:=⟨Tryz.f332.name,by decide,W.ff Tryz.func332⟩
 f95:=⟨Tryz.f333.name,by decide,W.ff Tryz.func333⟩
 f97:=⟨Tryz.f375.name,by decide,W.ff Tryz.func375⟩
 t0:=Tryz.underlying0
 a0:=Tryz.isAgg0
 z0:=Tryz.sizeOf0
 v0:=Tryz.zeroValue0
 t3:=Tryz.underlying3
 a3:=Tryz.isAgg3
 z3:=Tryz.sizeOf3
 v3:=Tryz.zeroValue3
 t4:=Tryz.underlying4
 a4:=Tryz.isAgg4
 z4:=Tryz.sizeOf4
 v4:=Tryz.zeroValue4
 t5:=Tryz.underlying5
 a5:=Tryz.isAgg5
 z5:=Tryz.sizeOf5
 v5:=Tryz.zeroValue5
 t9:=Tryz.underlying9
 a9:=Tryz.isAgg9
 z9:=Tryz.sizeOf9
 v9:=Tryz.zeroValue9
 t25:=Tryz.underlying38
 a25:=Tryz.isAgg38
 z25:=Tryz.sizeOf38
 v25:=Tryz.zeroValue38
 t26:=Tryz.underlying9
 a26:=Tryz.isAgg9
 z26:=Tryz.sizeOf9
 v26:=Tryz.zeroValue9
 t44:=Tryz.underlying116
 a44:=Tryz.isAgg116
 z44:=Tryz.sizeOf116
 v44:=Tryz.zeroValue116
 t51:=Tryz.underlying256
 a51:=Tryz.isAgg256
 z51:=Tryz.sizeOf256
 v51:=Tryz.zeroValue256
 t60:=Tryz.underlying327
 a60:=Tryz.isAgg327
 z60:=Tryz.sizeOf327
 v60:=Tryz.zeroValue327
 t61:=Tryz.underlying328
 a61:=Tryz.isAgg328
 z61:=Tryz.sizeOf328
 v61:=Tryz.zeroValue328
 t67:=Tryz.underlying334
 a67:=Tryz.isAgg334
 z67:=Tryz.sizeOf334
 v67:=Tryz.zeroValue334
 t69:=Tryz.underlying336
 a69:=Tryz.isAgg336
 z69:=Tryz.sizeOf336
 v69:=Tryz.zeroValue336
 t75:=Tryz.underlying386
 a75:=Tryz.isAgg386
 z75:=Tryz.sizeOf386
 v75:=Tryz.zeroValue386
 t79:=Tryz.underlying390
 a79:=Tryz.isAgg390
 z79:=Tryz.sizeOf390
 v79:=Tryz.zeroValue390
 t83:=Tryz.underlying433
 a83:=Tryz.isAgg433
 z83:=Tryz.sizeOf433
 v83:=Tryz.zeroValue433
 t84:=Tryz.underlying434
 a84:=Tryz.isAgg434
 z84:=Tryz.sizeOf434
 v84:=Tryz.zeroValue434 }
end Go.Proofs
namespace Go.W
open Go Go.Proofs
open Enc (enc)
set_option maxRecDepth 10000
variable {B i j k m n n2 n3:Nat} {P:Program} {a a2 a3:Option Addr} {g:GrD} {ps:List Int} {q:QyD} {s:List UInt8} {u u' w' w1 w2:World}
structure RowM (B:Nat) (w:World) (bm:Nat) (m:List (ByteArray×Value)) (f:ByteArray->List Int):Prop where
 lo:B<=bm
 map:MapL PP E.qg w bm m
 rows:∀s v,(s,v)∈m->Own B E.qb w v (f s)/\f s≠[]
 empt:∀s,s∉m.map (·.1)->f s=[]
 apart:∀s v s' v',(s,v)∈m->(s',v')∈m->s≠s'->∀g,Value.blk v=some g->Value.blk v'≠some g
theorem RowM.up{w:World}[Le w w']{b:Nat}{m:List (ByteArray×Value)}{f:ByteArray->List Int}(h:RowM B w b m f):RowM B w' b m f:=
 ⟨h.lo,h.map.up,λs v c=>⟨(h.rows s v c).1.up,(h.rows s v c).2⟩,h.empt,h.apart⟩
theorem RowM.kept{b:List TypeId}{w:World}{c:Nat}{m:List (ByteArray×Value)}{f:ByteArray->List Int}(h:RowM B w c m f)(F:FrT B b w w')(e:E.qb∉b)(l:mapK∉b):RowM B w' c m f:=
 ⟨h.lo,h.map.kept F l,λs v d=>⟨(h.rows s v d).1.kept F e,(h.rows s v d).2⟩,h.empt,h.apart⟩
theorem RowM.look{w:World}{l:Nat}{m:List (ByteArray×Value)}{f:ByteArray->List Int}(h:RowM B w l m f)(s:ByteArray):
  Own B E.qb w ((getM m s).getD (.slice none 0 0)) (f s)/\∀g,Value.blk ((getM m s).getD (.slice none 0 0))=some g->∃c,(s,c)∈m/\Value.blk c=some g:=by
 cases d:getM m s with
 |none =>
  rw [h.empt s (zDh.1 d)];exact⟨Own.nil _ _ _,λg b=>nomatch b⟩
 |some v =>
  have e:=zAY d;exact⟨(h.rows s v e).1,λg b=>⟨v,e,b⟩⟩
theorem RowM.push{w D:World}{I:Nat}{m:List (ByteArray×Value)}{f:ByteArray->List Int}{s:ByteArray}{n:Int}{F:Value}(h:RowM B w I m f)
  (O:Own B E.qb D F (f s++[n]))(S:Fr (ownD B ((getM m s).getD (.slice none 0 0))) w D)
  (y:Value.blk F=Value.blk ((getM m s).getD (.slice none 0 0))\/Value.blk F=some w.heap.size)(M:MapL PP E.qg u I (setM s F m))(X:Fr (λi=>i=I) D u):
  RowM B u I (setM s F m) (λs'=>if s'=s then f s'++[n] else f s')/\FrT B [E.qb,mapK] w u:=by
 have b:=h.look s;obtain⟨J,G⟩:=b;have z:=h.map.2;have F1:FrT B [E.qb,mapK] w D:=J.wrote S (Qe _) (by decide);have Y:MapL PP E.qg D I m:=h.map.frO J S;have F2:FrT B [E.qb,mapK] D u:=Y.wrote X h.lo (by decide);have K:FrT B [mapK] D u:=Y.wrote X h.lo (by decide)
 have lt:∀d o,(d,o)∈m->∃g,Value.blk o=some g/\g<w.heap.size:=λd o t=>by
  have b:=h.rows d o t;obtain⟨H,c⟩:=b;have b:=H.lt c;obtain⟨g,L,_,T⟩:=b;exact⟨g,L,T⟩
 have nd:∀d o,(d,o)∈m->d≠s->∀g,Value.blk o=some g->¬ownD B ((getM m s).getD (.slice none 0 0)) g:=λd o t c g r hd=>by
  have b:=G g hd.2.1;obtain⟨N,v,x⟩:=b;exact h.apart d o s N t v c g r x
 refine⟨⟨h.lo,M,λd o t=>?_,λd Q=>?_,λd o U V T Z c g r l=>?_⟩,F1.trans F2⟩
 ·have b:=(zAg z).1 t;rcases b with ⟨rfl,rfl⟩|⟨c,p⟩
  ·rw [if_pos rfl];exact⟨O.kept K (by decide),by simp⟩
  ·rw [if_neg c];have b:=h.rows d o p;obtain⟨H,C⟩:=b;exact⟨(H.fr S λg _ r=>nd d o p c g r).kept K (by decide),C⟩
 ·have W:d≠s:=by rintro rfl;exact Q ((setM_keys d F m d).2 (.inl rfl))
  rw [if_neg W];exact h.empt d λhm=>Q ((setM_keys s F m d).2 (.inr hm))
 ·have b:=(zAg z).1 T;rcases b with ⟨rfl,rfl⟩|⟨C,p⟩
  ·have b:=(zAg z).1 Z;rcases b with ⟨e,_⟩|⟨R,A⟩
   ·exact c e.symm
   ·rcases y with y|y
    ·rw [y] at r;have b:=G g r;obtain⟨N,v,x⟩:=b;exact h.apart _ N U V v A c g x l
    ·rw [y] at r;cases r;have b:=lt U V A;obtain⟨g',L,h4⟩:=b;rw [L] at l;cases l;omega
  ·have b:=(zAg z).1 Z;rcases b with ⟨rfl,rfl⟩|⟨R,A⟩
   ·rcases y with y|y
    ·rw [y] at l;have b:=G g l;obtain⟨N,v,x⟩:=b;exact h.apart d o _ N p v c g r x
    ·rw [y] at l;cases l;have b:=lt d o p;obtain⟨g',L,h4⟩:=b;rw [L] at r;cases r;omega
   ·exact h.apart d o U V p A c g r l
def fK (g:GrD) (k:Nat) (s:ByteArray):List Int:=((List.range k).filter λv=>(g.ws.getD v []).contains s).map λv:Nat=>(v:Int)
def fJ (g:GrD) (k j:Nat) (s:ByteArray):List Int:=fK g k s++if s∈(g.ws.getD k []).take j then [(k:Int)] else []
theorem fK_all(g:GrD)(s:ByteArray):fK g g.n s=plOf g s:=rfl
theorem fK_len(g:GrD)(k:Nat)(s:ByteArray):(fK g k s).length<=k:=by
 unfold fK;rw [Qr];exact Qw (Qv _ _) (by simp)
theorem zCO(g:GrD)(k:Nat):fJ g k 0=fK g k:=by
 funext s;simp [fJ]
theorem fJ_end(h:j=(g.ws.getD k []).length):fJ g k j=fK g (k+1):=by
 funext s;subst h;unfold fJ fK;rw [Qg,Jm,QV,QB];congr 1;simp only [Vj,List.filter_nil,VA];split <;> simp
theorem zMi{l:List ByteArray}(b:g.ws.getD k []=l)(c:j<l.length)(d:l.Nodup):fJ g k (j+1)=λs=>if s=l[j] then fJ g k j s++[(k:Int)] else fJ g k j s:=by
 funext s;unfold fJ;rw [b,take_add c];simp only [Qf,Qc];by_cases e:s=l[j]
 ·rw [if_pos e,if_pos (.inr e)]
  have:s∉l.take j:=by
   rw [e,List.mem_take_iff_getElem];rintro⟨i,hi,f⟩;have:=(VQ d).1 f;omega
  rw [if_neg this,QE]
 ·rw [if_neg e];simp [e]
theorem ltW_nd{l:List ByteArray}(h:l.Pairwise ltW):l.Nodup:=by
 rw [Qx];exact h.imp λ{a b} c e=>by subst e;exact List.lt_irrefl _ c
theorem zPR(t:g.ws.length=g.n){s:ByteArray}:plOf g s≠[]↔∃l∈g.ws,s∈l:=by
 constructor
 ·intro h;have b:=List.exists_cons_of_ne_nil h;obtain⟨x,r,e⟩:=b;have o:x∈plOf g s:=by rw [e];exact Qs
  have b:=zB6.1 o;obtain⟨v,_,f,d⟩:=b;have c:v<g.ws.length:=by omega
  rw [Qk,Qd c,QP] at d;exact⟨_,Qa c,d⟩
 ·rintro⟨l,p,d⟩ h;have b:=QI.1 p;obtain⟨v,f,rfl⟩:=b;have:(v:Int)∈plOf g s:=zB6.2 ⟨v,rfl,by omega,by rw [Qk,Qd f,QP];exact d⟩;rw [h] at this;cases this
def MakI (g:GrD) (B bm:Nat) (k j:Nat) (v:Value) (u:World):Prop:=
 ∃m Wd,Own B E.qg u v Wd/\RowM B u bm m (fJ g k j)/\Wd.Nodup/\(∀s,s∈Wd↔fJ g k j s≠[])/\Wd.length<=8*k+j
theorem zHB{x:RGr}{vs:List SV}{w:World}(V:GrV w x g vs)(hg:GrIs g):
  Sp PP F.d6 #[agg x] w λv w'=>(∃a c ps ws,v=.tuple #[.slice a ps.length c,.int .i64 0]/\PosM w' g ws ps/\SlF w' (.slice a ps.length c) ps/\ps.length<=2000/\Own w.heap.size E.qo w' (.slice a ps.length c) ps/\∀i (h:i<ps.length) (M:i<ws.length),Own w.heap.size E.qb w' ps[i].pl.v (plOf g ws[i]))/\Stp w w':=by
 have d1:=hg.ok.n2;have d2:=hg.nw;have d3:vs.length=g.ws.length:=V.rows.1;obtain⟨xn,U,⟨wa,wn,wc⟩⟩:=x;have t:vs.length=wn:=V.ws.len.symm;obtain rfl:=t;have b8:SlF w (.slice wa vs.length wc) vs:=V.ws;have a5:agg (⟨xn,U,⟨wa,vs.length,wc⟩⟩:RGr)=.agg #[.int .i64 xn,.slice U.a U.n U.c,.slice wa vs.length wc]:=rfl;rw [a5];refine eN ?_;refine rbx λb w1 n1 B1=>rldG (ds:=[.int .i64 xn,.slice U.a U.n U.c,.slice wa vs.length wc]) (B:=B1) rfl rfl (rcall (zDB (V.up (w':=w1))) ?_);rintro _ w2 ⟨⟨rfl,_⟩|⟨rfl,h2⟩,e2⟩
 case' inr=>exact absurd hg h2
 refine rmkN (kt:=E.qg) (κ:=ByteArray) rfl λC w3 n3 M3=>?_;have b9:=n3.lo (u:=w);refine rX B1 rfl ?_;have R0:RowM w.heap.size w3 C [] (fK g 0):=⟨b9,M3,by simp,λs _=>rfl,by simp⟩;have I0:MakI g w.heap.size C 0 0 (.slice none 0 0) w3:=⟨[],[],Own.nil _ _ _,by rw [zCO];exact R0,.nil,λs=>by rw [zCO];simp [fK],by simp⟩;refine cnt1 TBok 20 [6,7,9] 5 20 vs.length (λk v u=>MakI g w.heap.size C k 0 v u/\Stp w u) rfl rfl ⟨I0,stp⟩ ?_;rintro k v G u hk ⟨I,su⟩;refine ite (λhlt=>?_) (λd4=>?_)
 ·have Q:k<vs.length:=by omega
  have R:k<g.ws.length:=by omega
  refine rix (b8.up (w':=u)) (x:=vs[k]) (by simp) λb1 o1 A1=>rload1 (A1.cell0 rfl) ?_;have hR:SlF w vs[k].v g.ws[k]:=V.rows.2 k Q R;have a6:g.ws.getD k []=g.ws[k]:=by rw [Qk,Qd R,QP]
  have a7:=hR.len;have d5:=(hg.word _ (Qa R)).1;have c0:=ltW_nd (hg.wr _ (Qa R));generalize d7:g.ws[k]=l at *;generalize d8:vs[k]=sv at *;obtain⟨sa,sn,sc⟩:=sv;simp only at a7;subst a7;refine cnt1 TBok 27 [9] 5 27 l.length (λj v u=>MakI g w.heap.size C k j v u/\Stp w u) rfl rfl ⟨I,su⟩ ?_;rintro j v G2 u2 hj ⟨⟨m,Wd,W,N,H,y,c1⟩,s2⟩;refine ite (λa8=>?_) (λa9=>?_)
  ·dsimp only at a8;have X:j<l.length:=by omega
   refine rix (hR.up (w':=u2)) (x:=l[j]) (by simp) λb3 o3 A3=>rload1 (A3.cell0 rfl) ?_;have A:=N.look l[j];obtain⟨O,c2⟩:=A;have O':=O;have Y:=O.shape;obtain⟨oa,oc,J⟩:=Y;rw [J] at O';refine rlookE N.map l[j] rfl (by exact J) ?_
   have d9:(fJ g k j l[j]).length<=201:=by
    unfold fJ;rw [Qb];have:=fK_len g k l[j];split <;> simp <;> omega
   have K:=zMi a6 X c0;have e0:w.heap.size<=u2.heap.size:=lz w u2
   have fin:∀(u0 u1 S:World) (v2 v':Value) (D:List ByteArray),Own w.heap.size E.qg u0 v2 D->RowM w.heap.size u0 C m (fJ g k j)->D.Nodup->(∀s,s∈D↔s=l[j]\/fJ g k j s≠[])->D.length<=8*k+(j+1)->Stp w u0 ->
     Own w.heap.size E.qb u1 v' (fJ g k j l[j]++[(k:Int)])->Fr (ownD w.heap.size ((getM m l[j]).getD (.slice none 0 0))) u0 u1->(Value.blk v'=Value.blk ((getM m l[j]).getD (.slice none 0 0))\/Value.blk v'=some u0.heap.size) ->
     MapL PP E.qg S C (setM l[j] v' m)->Fr (λi=>i=C) u1 S->MakI g w.heap.size C k (j+1) v2 S/\Stp w S:=λu0 u1 S v2 v' D O2 R2 h1 h2 h3 s0 O1 f1 hv M3 f3=>by
    have hc:=R2.push O1 f1 hv M3 f3;rw [<-K] at hc;refine⟨⟨_,D,O2.kept hc.2 (by decide),hc.1,h1,λs=>?_,h3⟩,⟨FrT.st s0.e hc.2 (Qe _)⟩⟩;rw [h2,K];by_cases e:s=l[j]
    ·simp [e]
    ·simp [e]
   refine ite (λhz=>?_) (λc3=>?_)
   ·have c4:fJ g k j l[j]=[]:=Qn (by omega);have b0:l[j]∉Wd:=λhm=>(y _).1 hm c4;refine rbs1 l[j] rfl rfl (by decide) λb3 w3 n3 _ S3=>rapp1 (u:=w) ⟨rfl,rfl⟩ (W.up (w':=w3)) S3 (by omega) λv3 S L f3 s3=>?_;have p:RowM w.heap.size S C m (fJ g k j):=(N.up (w':=w3)).kept ((W.up (w':=w3)).wrote f3 (Qe _) (show E.qg∈[E.qg] by decide)) (by decide) (by decide);have O3:=(p.look l[j]).1;have t:∃x,x=Wd++[l[j]]:=⟨_,rfl⟩;obtain⟨z,o⟩:=t;rw [<-o] at L
    have T:z.Nodup:=by
     rw [o,JU];exact⟨H,by simp,λa ha b hb e=>b0 (by rw [Qc.1 hb] at e;exact e ▸ ha)⟩
    have Z:∀s,s∈z↔s=l[j]\/fJ g k j s≠[]:=λs=>by
     rw [o,Qf,Qc,y];exact Or.comm
    have a0:z.length<=8*k+(j+1):=by rw [o];simp;omega
    refine rlook p.map l[j] rfl (rbs1 (k:Int) rfl rfl (by decide) λb5 r n5 _ S5=>?_);have h5:w.heap.size<=r.heap.size:=lz w r;refine rappD ⟨rfl,rfl⟩ (O3.up (w':=r)) S5 (by simp) h5 (by simp;omega) λv6 w6 O6 f6 hv=>?_;have M6:MapL PP E.qg w6 C m:=(p.map.up (w':=r)).frO (O3.up (w':=r)) f6;refine rupd M6 l[j] rfl λw7 M7 f7 _=>?_;have q7:=fin r w6 w7 v3 v6 z (L.up (w':=r)) (p.up (w':=r)) T Z a0 stp O6 f6 hv M7 f7;exact rA ⟨rfl,X,q7.1,q7.2⟩
   ·have b2:fJ g k j l[j]≠[]:=λe=>c3 (by rw [e];rfl);have t:∃x,x=v:=⟨_,rfl⟩;obtain⟨v3,rfl⟩:=t;have t:∃x,x=Wd:=⟨_,rfl⟩;obtain⟨z,o⟩:=t;have L:=W;have p:=N;have O3:=O;have T:=H;rw [<-o] at L;rw [<-o] at T
    have Z:∀s,s∈z↔s=l[j]\/fJ g k j s≠[]:=λs=>by
     rw [o,y];constructor
     ·exact .inr
     ·rintro(rfl|h)
      ·exact b2
      ·exact h
    have a0:z.length<=8*k+(j+1):=by rw [o];omega
    refine rlook p.map l[j] rfl (rbs1 (k:Int) rfl rfl (by decide) λb5 r n5 _ S5=>?_);have h5:w.heap.size<=r.heap.size:=lz w r;refine rappD ⟨rfl,rfl⟩ (O3.up (w':=r)) S5 (by simp) h5 (by simp;omega) λv6 w6 O6 f6 hv=>?_;have M6:MapL PP E.qg w6 C m:=(p.map.up (w':=r)).frO (O3.up (w':=r)) f6;refine rupd M6 l[j] rfl λw7 M7 f7 _=>?_;have q7:=fin r w6 w7 v3 v6 z (L.up (w':=r)) (p.up (w':=r)) T Z a0 stp O6 f6 hv M7 f7;exact rA ⟨rfl,X,q7.1,q7.2⟩
  ·dsimp only at a9;have t:j=l.length:=by omega
   obtain rfl:=t;rw [fJ_end (by rw [a6])] at N y;exact rA ⟨rfl,Q,⟨m,Wd,W,by rw [zCO];exact N,H,λs=>by rw [zCO];exact y s,by omega⟩,s2⟩
 ·have t:k=vs.length:=by omega
  obtain rfl:=t;obtain⟨m,Wd,W,N,H,y,c1⟩:=I;rw [zCO] at N y;rw [show vs.length=g.n by omega] at N y;refine rcall (zPg Tryz.sortT (f:=F.zx) rfl W (by omega)) ?_;rintro _ u2 ⟨rfl,d,hp,hs,OS,f2⟩;have c5:RowM w.heap.size u2 C m (fK g g.n):=N.kept (W.wrote f2 (Qe _) (show E.qg∈[E.qg] by decide)) (by decide) (by decide);have s2:Stw w u u2:=zAH f2;have b4:d.Nodup:=hp.nodup_iff.2 H;have e1:=hp.length_eq;have P0:(∀s,s∈d↔∃l∈g.ws,s∈l):=λs=>by rw [hp.mem_iff,y,<-zPR hg.nw];rfl
  have c6:d.Pairwise ltW:=by
   rw [Qx] at b4
   exact(hs.and b4).imp λ{a b} ⟨h1,h2⟩=>by
    have t:=zFl a b;rcases t with h|h|h
    ·exact h
    ·exact absurd h h2
    ·exact absurd h1 (List.not_le.2 h)
  have t:=OS.shape;obtain⟨c7,c8,rfl⟩:=t
  refine cnt1 TBok 54 [12] 10 54 d.length (λk v u=>∃ps:List RPo,Own w.heap.size E.qo u v ps/\ps.length=k/\(∀i (h:i<ps.length) (M:i<d.length),ps[i].word=d[i]/\ps[i].pl.v=(getM m d[i]).getD (.slice none 0 0))/\RowM w.heap.size u C m (fK g g.n)/\Own w.heap.size E.qg u (.slice c7 d.length c8) d/\Stp w u) rfl rfl
   ⟨[],Own.nil _ _ _,rfl,by simp,c5,OS,stp⟩ ?_
  rintro k v G3 S e3 ⟨ps,OP,a1,a4,p,b6,s3⟩;refine ite (λc9=>?_) (λd0=>?_)
  ·have Q:k<d.length:=by omega
   refine rix b6.sl (x:=d[k]) (by simp) λb3 o3 A3=>rload1 (A3.cell0 rfl) ?_;have A:=p.look d[k];obtain⟨O,c2⟩:=A;have Y:=O.shape;obtain⟨oa,oc,J⟩:=Y;refine rlookE p.map d[k] rfl (by exact J) ?_;refine rbuild (cs:=enc (⟨d[k],⟨oa,(fK g g.n d[k]).length,oc⟩⟩:RPo)) rfl (rbs1 (⟨d[k],⟨oa,(fK g g.n d[k]).length,oc⟩⟩:RPo) rfl rfl (by decide) λb5 r n5 _ S5=>rapp1 (u:=w) ⟨rfl,rfl⟩ (OP.up (w':=r)) S5 (by omega) λv6 w6 O6 f6 s6=>?_);have F6:FrT w.heap.size [E.qo] r w6:=(OP.up (w':=r)).wrote f6 (Qe _) (by decide)
   have b7:∀i (h:i<(ps++[(⟨d[k],⟨oa,(fK g g.n d[k]).length,oc⟩⟩:RPo)]).length) (M:i<d.length),(ps++[(⟨d[k],⟨oa,(fK g g.n d[k]).length,oc⟩⟩:RPo)])[i].word=d[i]/\(ps++[(⟨d[k],⟨oa,(fK g g.n d[k]).length,oc⟩⟩:RPo)])[i].pl.v=(getM m d[i]).getD (.slice none 0 0):=λi h M=>by
    by_cases hi:i<ps.length
    ·rw [List.getElem_append_left hi];exact a4 i hi M
    ·have h3:i=k:=by simp at h;omega
     subst h3;rw [List.getElem_append_right (by omega)];simp only [a1,JN,Vb];exact⟨trivial,J.symm⟩
   exact rA ⟨rfl,Q,_,O6,by simp [a1],b7,(p.up (w':=r)).kept F6 (by decide) (by decide),(b6.up (w':=r)).kept F6 (by decide),stp⟩
  ·have t:k=d.length:=by omega
   obtain rfl:=t;have t:=OP.shape;obtain⟨pa,pc,rfl⟩:=t
   have hO:∀i (h:i<ps.length) (M:i<d.length),Own w.heap.size E.qb S ps[i].pl.v (plOf g d[i]):=λi h M=>by
    rw [(a4 i h M).2];exact(p.look d[i]).1
   exact⟨⟨pa,pc,ps,d,rfl,⟨c6,P0,a1,λi h M=>⟨(a4 i h M).1,(hO i h M).sl⟩⟩,OP.sl,by omega,OP,hO⟩,s3⟩
theorem zNq:∀{a b:List Int},a.Pairwise (· < ·)->b.Pairwise (· < ·)->(∀x,x∈a↔x∈b)->a=b:=by
 intro a b e f h;have c:a.Nodup:=by rw [Qx];exact e.imp λh=>by omega
 have d:b.Nodup:=by rw [Qx];exact f.imp λh=>by omega
 have l:=(JM c d).2 h;exact l.eq_of_pairwise (λx y _ _ o p=>by omega) (e.imp λh=>Int.le_of_lt h) (f.imp λh=>Int.le_of_lt h)
def isT:Value->Bool
 |.bool true=>true
 |_=>false
theorem zPM{v:Value}:isT v=true↔v=.bool true:=by
 unfold isT;split <;> simp_all
theorem zF9{bs:Nat}{l:List (Int×Value)}{f:Int->Prop}{w:World}(S:SetB w bs l f):
  Sp PP F.z4 #[.map (some bs)] w λv w'=>(∃L:List Int,L.Pairwise (· < ·)/\(∀n,n∈L↔f n)/\Own w.heap.size E.qb w' v L)/\Stp w w':=by
 have K:=S.mp.2;have a4:=S.len;refine eN ?_;refine rnx rfl (rrangeM S.mp λr w2 nr M _=>?_);have hr:=nr.b
 refine loop1G TBok 8 [4,5] 3 (λi v u=>∃(done rest:List (Int×Value)) (L:List Int),rest.length=i/\(done++rest).Perm l/\L=(done.filter λp=>isT p.2).map (·.1)/\Own w.heap.size E.qb u v L/\ItB PP E.qb u r bs rest/\Stp w u) rfl
  ⟨_,[],l,[],rfl,.refl _,rfl,Own.nil _ _ _,M,stp⟩ ?_
 rintro i vl G u ⟨done,rest,L,hi,A,rfl,O,It,su⟩;have N:=A.length_eq;rw [Qb] at N;have a5:((done.filter λp=>isT p.2).map (·.1)).length<=done.length:=by rw [Qr];exact Qv _ _
 refine rnx rfl (rnextM It (λo=>?_) λx v c t y Q J a6=>?_)
 ·subst o;rw [QE] at A;refine rcall (zPf Tryz.sortI (f:=F.p6) rfl O (by omega)) ?_;rintro _ t ⟨rfl,C,J⟩;have s2:Stw w u t:=zAH J;refine⟨⟨_,?_,λn=>?_,C⟩,stp⟩
  ·have R:=zOc ((done.filter λp=>isT p.2).map (·.1));have z:=zI8 ((done.filter λp=>isT p.2).map (·.1))
   have T:((done.filter λp=>isT p.2).map (·.1)).Nodup:=by
    have U:(done.map (·.1)).Nodup:=(A.map _).nodup_iff.2 K;exact U.sublist ((XY ..).map _)
   have D:=z.nodup_iff.2 T;rw [Qx] at D;exact(R.and D).imp λ{a b} ⟨g1,g2⟩=>by omega
  ·rw [(zI8 _).mem_iff,S.has,<-A.mem_iff,Qq];constructor
   ·rintro⟨⟨p1,p2⟩,z,rfl⟩;have V:=QC.1 z;obtain⟨U,h2⟩:=V;rw [<-zPM.1 h2];exact U
   ·intro h;exact⟨_,QC.2 ⟨h,rfl⟩,rfl⟩
 ·have W:(x,v)∈l:=A.mem_iff.1 (JJ _ (y.mem_iff.1 Qs));have V:=S.bool _ W;obtain⟨xb,H⟩:=V;simp only at H;subst H;have s2:Stp w t:=⟨Fr.st su.e J λi hi=>by omega⟩
  have I:(done++[(x,Value.bool xb)]++c).Perm l:=by
   rw [Qp];exact(Vp done y).trans A
  have X:=y.length_eq;rw [QA] at X;have C:Own w.heap.size E.qb t vl ((done.filter λp=>isT p.2).map (·.1)):=O.itq (It.itq J (Qe r));refine rnx rfl (rentryM Q ?_)
  cases xb with
  |true =>
   refine rbs1 x rfl rfl (by decide) λb6 Y e6 _ S6=>rapp1 (u:=w) ⟨rfl,rfl⟩ (C.up (w':=Y)) S6 (by omega) λv7 Z O7 f7 s7=>?_
   have e7:((done++[(x,Value.bool true)]).filter λp=>isT p.2).map (·.1)=(done.filter λp=>isT p.2).map (·.1)++[x]:=by
    rw [QV,QB];simp [isT]
   rw [<-e7] at O7;have a0:=Q.b.up (w':=Y);have a1:=a0.fro (C.up (w':=Y)) f7;have fin:∃(done d:List (Int×Value)) (L:List Int),d.length=c.length/\(done++d).Perm l/\L=(done.filter λp=>isT p.2).map (·.1)/\Own w.heap.size E.qb Z v7 L/\ItB PP E.qb Z r bs d/\Stp w Z:=⟨done++[(x,Value.bool true)],c,_,rfl,I,rfl,O7,a1,stp⟩;exact⟨c.length,by omega,fin⟩
  |false =>
   have e7:((done++[(x,Value.bool false)]).filter λp=>isT p.2).map (·.1)=(done.filter λp=>isT p.2).map (·.1):=by
    rw [QV,QB];simp [isT]
   rw [<-e7] at C;have fin:∃(done d:List (Int×Value)) (L:List Int),d.length=c.length/\(done++d).Perm l/\L=(done.filter λp=>isT p.2).map (·.1)/\Own w.heap.size E.qb t vl L/\ItB PP E.qb t r bs d/\Stp w t:=⟨done++[(x,Value.bool false)],c,_,rfl,I,rfl,C,Q.b,s2⟩;exact⟨c.length,by omega,fin⟩
theorem zIY(f:g.ws.length=g.n){s:ByteArray}(h:¬∃l∈g.ws,s∈l):plOf g s=[]:=by
 cases d:plOf g s with
 |nil=>rfl
 |cons x r =>
  have:x∈plOf g s:=by rw [d];exact Qs
  have e:=zB6.1 this;obtain⟨v,_,o,c⟩:=e;exfalso;have b:v<g.ws.length:=by omega
  rw [Qk,Qd b] at c;exact h ⟨_,Qa b,c⟩
theorem zDq{c:Nat}{C:List ByteArray}{ps:List RPo}{s:ByteArray}{w:World}(h:SlF w (.slice a n c) ps)(M:PosM w g C ps)(H:GrIs g)(R:ps.length<=100000):
  Sp PP F.ci #[.slice a n c,.string s] w λv w'=>Own w.heap.size E.qb w' v (plOf g s)/\Stp w w':=by
 have I:=H.ok.n2;have d:=h.len;obtain rfl:=d;have J:=zB9 g s;refine eN ?_;refine cnt TBok 9 [4,6] 9 ps.length (λk u=>(∀x∈C.take k,x≠s)/\Stp w u) rfl rfl ⟨by simp,stp⟩ ?_;rintro k G u S ⟨b,e⟩;refine ite (λhlt=>?_) (λK=>?_)
 ·have l:k<ps.length:=by omega
  have o:k<C.length:=by have:=M.len;omega
  have d:=M.at' k l o;obtain⟨p,r⟩:=d;refine rix (h.up (w':=u)) (x:=ps[k]) (by simp) λT U L=>rloadA L rfl (ral λN V n2 z2=>rE z2 (ps[k]) λy z O=>?_);have z:Bk y N (enc ps[k]) E.qo:=z;have W:Stp u y:=n2.st O;refine rX z rfl (rseq (λA=>?_) (λA=>?_))
  ·rw [p] at A;rw [A] at r;refine rX z rfl (rcall (zBe (r.up (w':=y)) (by omega)) ?_);rintro v X ⟨Q,Y⟩;exact⟨Q.mono (lz w y),stp⟩
  ·refine rA ⟨rfl,l,λt f=>?_,stp⟩;rw [take_add o] at f;have d:=Qf.1 f;rcases d with f|f
   ·exact b t f
   ·rw [Qc.1 f,<-p];exact A
 ·have d:k=ps.length:=by omega
  obtain rfl:=d;rw [M.len,Qg] at b;rw [zIY H.nw λD=>b s ((M.all s).2 D) rfl];exact⟨Own.nil _ _ _,e⟩
theorem zGZ{v:Value}{w:World}:Sp PP F.qn #[v] w λr w'=>r=.func (.func F.q4) #[v] #[]/\w'=w:=by
 refine eN ?_;exact⟨rfl,rfl⟩
theorem zFq{r:TypeId}{c l bl:Nat}{t:List ByteArray}{ps:List RPo}{s:ByteArray}{bs:Nat}{x:List (Int×Value)}{f:Int->Prop}{w:World}(h:SlF w (.slice a ps.length c) ps)(M:PosM w g t ps)(o:GrIs g)(y:ps.length<=100000)
  (W:Bk w l [.func (.func F.qn) #[] #[]] r)(L:Bk w bl [.slice a ps.length c] E.q7)(S:SetB w bs x f):
  Sp PP F.yc #[.map (some bs),.string s,.pointer (some ⟨l,0,none⟩),.pointer (some ⟨bl,0,none⟩)] w λv w'=>(∃b m,v=.map (some b)/\SetB w' b m (λn=>f n/\n∈plOf g s))/\Stp w w':=by
 have z:=zB9 g s;have A:=o.ok.n2;refine eN ?_;refine dD (λ_=>False) [0,1,3,4,2,5,6,7,8] λw1 T=>tX W rfl nf (tX L rfl nf ?_);refine rcall zGZ ?_;rintro _ d ⟨rfl,rfl⟩;refine⟨Fr.refl _ _,?_⟩;refine rcall (zDq (s:=s) (h.up (w':=d)) (M.up (w':=d)) o y) ?_;rintro v w2 ⟨p,C⟩;refine⟨C.e,?_⟩;have D:=p.shape;obtain⟨oa,oc,rfl⟩:=D;refine rcall (zER p.sl (by omega)) ?_;rintro _ G ⟨⟨U,V,rfl,H,I⟩,J⟩;refine⟨J.e,?_⟩;refine rcall (zHC (S.up (w':=G)) H) ?_;rintro _ X ⟨⟨K,N,rfl,O,Q⟩,R⟩;refine⟨R.e,?_⟩;exact⟨⟨K,N,rfl,O⟩,stp⟩
theorem zF8{I:TypeId}{c c2 z bl:Nat}{J:List ByteArray}{ps:List RPo}{l:List ByteArray}{bs:Nat}{A:List (Int×Value)}{f:Int->Prop}{w:World}(h:SlF w (.slice a ps.length c) ps)(M:PosM w g J ps)(K:GrIs g)(N:ps.length<=100000)
  (W:Bk w z [.func (.func F.qn) #[] #[]] I)(L:Bk w bl [.slice a ps.length c] E.q7)(S:SetB w bs A f)(C:SlF w (.slice a2 n2 c2) l)(O:l.length<=1000000):
  Sp PP F.y4 #[.map (some bs),.slice a2 n2 c2,.func (.func F.yc) #[] #[.pointer (some ⟨z,0,none⟩),.pointer (some ⟨bl,0,none⟩)]] w λv w'=>(∃b m,v=.map (some b)/\SetB w' b m (λn=>f n/\∀s∈l,n∈plOf g s))/\Stp w w':=by
 have r:=C.len;obtain rfl:=r;refine eN ?_;refine cnt1 TBok 11 [8] 0 11 l.length (λk v u=>(∃b m,v=.map (some b)/\SetB u b m (λn=>f n/\∀s∈l.take k,n∈plOf g s))/\Stp w u) rfl rfl ⟨⟨bs,A,rfl,by simpa using S⟩,stp⟩ ?_;rintro k v G u Y ⟨⟨b,m,rfl,t⟩,Q⟩;refine ite (λhlt=>?_) (λR=>?_)
 ·have d:k<l.length:=by omega
  refine rix (C.up (w':=u)) (x:=l[k]) (by simp) λZ o1 T=>rload1 (T.cell0 rfl) (rcall (zFq (s:=l[k]) (h.up (w':=u)) (M.up (w':=u)) K N (W.mv (w:=u)) (L.mv (w:=u)) t) ?_);rintro _ U ⟨⟨D,H,rfl,o⟩,e2⟩
  have V:SetB U D H (λn=>f n/\∀s∈l.take (k+1),n∈plOf g s):=⟨o.mp,o.bool,λn=>by
   rw [<-o.has,take_add d];simp only [Qf,Qc];constructor
   ·rintro⟨y,p⟩;exact⟨⟨y,λs e=>p s (.inl e)⟩,p _ (.inr rfl)⟩
   ·rintro⟨⟨y,p⟩,X⟩;refine⟨y,λs e=>?_⟩;rcases e with e|rfl
    ·exact p s e
    ·exact X,o.len⟩
  exact rA ⟨rfl,d,⟨D,H,rfl,V⟩,stp⟩
 ·have r:k=l.length:=by omega
  obtain rfl:=r;rw [Qg] at t;exact⟨⟨b,m,rfl,t⟩,Q⟩
theorem zHz{q:List ByteArray}{L:List Int}(l:L.Pairwise (· < ·))(o:q≠[])(p:∀n,n∈L↔∀s∈q,n∈plOf g s):L=placesL g q:=by
 refine zNq l ?_ λn=>?_
 ·unfold placesL;rw [QY];exact(List.pairwise_lt_range.filter _).imp λh=>by omega
 ·rw [p];unfold placesL;simp only [Qq,QC,Q0,XL,VA];constructor
  ·intro h;have b:=List.exists_cons_of_ne_nil o;obtain⟨t,r,rfl⟩:=b;have b:=zB6.1 (h t Qs);obtain⟨v,rfl,c,_⟩:=b;refine⟨v,⟨c,λs d=>?_⟩,rfl⟩;have b:=zB6.1 (h s d);obtain⟨w,e,_,f⟩:=b;have b:v=w:=by omega
   obtain rfl:=b;exact f
  ·rintro⟨v,⟨c,f⟩,rfl⟩ s d;exact zB6.2 ⟨v,rfl,c,f s d⟩
theorem zIb{c c2:Nat}{H:List ByteArray}{ps:List RPo}{q:List ByteArray}{w:World}(h:SlF w (.slice a n c) ps)(M:PosM w g H ps)(z:GrIs g)(C:ps.length<=100000)(A:SlF w (.slice a2 n2 c2) q)(o:q≠[])(I:q.length<=1000000):
  Sp PP F.cu #[.slice a n c,.slice a2 n2 c2] w λv w'=>(∃b,v=.tuple #[b,.int .i64 0]/\Own w.heap.size E.qb w' b (placesL g q))/\Stp w w':=by
 have d:=h.len;obtain rfl:=d;have d:=A.len;obtain rfl:=d;have J:=z.ok.n2;have f:0<q.length:=JI.2 o
 have K:Sp PP F.d3 #[.slice a ps.length c,.slice a2 q.length c2,.func (.func F.qn) #[] #[]] w λv w'=>(∃b,v=.tuple #[b,.int .i64 0]/\Own w.heap.size E.qb w' b (placesL g q))/\Stp w w':=by
  refine eN ?_;refine rbx λbl w1 n1 t=>rbx λbw w2 n2 N=>iF (by first|omega|decide|(dsimp only <;> omega)) ?_;have t:Bk w1 bl [.slice a ps.length c] E.q7:=t;have O:=zB9 g q[0];refine dD (λ_=>False) [0,1,2,3,6,7,8,4,5,9,10] λy e3=>tX t rfl nf (tix (i:=0) (A.up (w':=y)) (x:=q[0]) (by simp [f]) λb4 o4 Q _=>tload1 (Q.cell0 rfl) nf (tsl (some 1) none (A.up (w':=y)) (by simp;omega) (by simp) λa5 c5 R=>?_));refine rcall (zDq (s:=q[0]) (h.up (w':=y)) (M.up (w':=y)) z C) ?_;rintro v w4 ⟨D,S⟩;refine⟨S.e,?_⟩;have d:=D.shape;obtain⟨oa,oc,rfl⟩:=d;refine rcall (zER D.sl (by omega)) ?_;rintro _ p ⟨⟨b5,m5,rfl,T,U⟩,V⟩;refine⟨V.e,?_⟩;refine rcall (zF8 (h.up (w':=p)) (M.up (w':=p)) z C (N.mv (w:=p)) (t.mv (w:=p)) T (R.up (w':=p)) (by simp;omega)) ?_;rintro _ W ⟨⟨b6,m6,rfl,X⟩,Y⟩;refine⟨Y.e,?_⟩;refine rcall (zF9 X) ?_;rintro v w7 ⟨⟨L,Z,hm,G⟩,e7⟩
  have e8:L=placesL g q:=zHz Z o λn=>by
   rw [hm,zBx]
   have e9:q=q[0]::q.drop 1:=by
    cases q with
    |nil=>simp at f
    |cons x r=>rfl
   constructor
   ·rintro⟨h1,h2⟩ s l;rw [e9] at l;have d:=Ql.1 l;rcases d with rfl|l
    ·exact h1
    ·exact h2 s l
   ·intro h;exact⟨h _ (Qa f),λs l=>h s (List.mem_of_mem_drop l)⟩
  rw [e8] at G;exact⟨⟨v,rfl,G.mono (lz w W)⟩,stp⟩
 refine eN ?_;refine rcall K ?_;rintro _ w2 ⟨⟨b,rfl,O2⟩,e2⟩;exact⟨⟨b,rfl,O2⟩,stp⟩
structure LeaM (S:List StD) (dir:Int) (m:List (Int×Value)):Prop where
 val:∀p∈m,∃x∈S,x.key.dir=dir/\p.1=x.key.v/\p.2=.int .i64 x.d/\∀y∈S,y.key.dir=dir->y.key.v=x.key.v->x.d<=y.d
 all:∀x∈S,x.key.dir=dir->∃v,(x.key.v,v)∈m
theorem LeaM.skip{S:List StD}{dir:Int}{m:List (Int×Value)}{x:StD}(h:LeaM S dir m)(d:x.key.dir≠dir):LeaM (S++[x]) dir m:=by
 refine⟨λp e=>?_,λy b hd=>?_⟩
 ·have c:=h.val p e;obtain⟨z,f,l,o,r,t⟩:=c;refine⟨z,QN _ f,l,o,r,λy b hd v=>?_⟩;have c:=Qf.1 b;rcases c with b|b
  ·exact t y b hd v
  ·rw [Qc.1 b] at hd;exact absurd hd d
 ·have c:=Qf.1 b;rcases c with b|b
  ·exact h.all y b hd
  ·rw [Qc.1 b] at hd;exact absurd hd d
theorem LeaM.set{S:List StD}{dir:Int}{m:List (Int×Value)}{x:StD}(h:LeaM S dir m)(l:(m.map (·.1)).Nodup)(A:x.key.dir=dir)(o:∀y∈S,y.key.dir=dir->y.key.v=x.key.v->x.d<=y.d):LeaM (S++[x]) dir (setM x.key.v (.int .i64 x.d) m):=by
 refine⟨λp C=>?_,λy b hd=>?_⟩
 ·obtain⟨p1,p2⟩:=p;have c:=(zAg l).1 C;rcases c with ⟨r,t⟩|⟨r,t⟩
  ·subst r;subst t;refine⟨x,by simp,A,rfl,rfl,λy b hd f=>?_⟩;have c:=Qf.1 b;rcases c with b|b
   ·exact o y b hd f
   ·rw [Qc.1 b];exact Vr _
  ·have c:=h.val _ t;obtain⟨z,D,E,w,F,G⟩:=c;refine⟨z,QN _ D,E,w,F,λy b hd f=>?_⟩;have c:=Qf.1 b;rcases c with b|b
   ·exact G y b hd f
   ·rw [Qc.1 b] at f;exact absurd (w.trans f.symm) r
 ·have c:=Qf.1 b;rcases c with b|b
  ·have c:=h.all y b hd;obtain⟨v,f⟩:=c;by_cases e:y.key.v=x.key.v
   ·exact⟨_,(zAg l).2 (.inl ⟨e,rfl⟩)⟩
   ·exact⟨v,(zAg l).2 (.inr ⟨e,f⟩)⟩
  ·rw [Qc.1 b];exact⟨_,(zAg l).2 (.inl ⟨rfl,rfl⟩)⟩
theorem LeaM.keep{S:List StD}{dir:Int}{m:List (Int×Value)}{x z:StD}(h:LeaM S dir m)(o:z∈S)(c:z.key.dir=dir)(e:z.key.v=x.key.v)(t:¬x.d<z.d):LeaM (S++[x]) dir m:=by
 refine⟨λp w=>?_,λy b hd=>?_⟩
 ·have f:=h.val p w;obtain⟨u,A,C,D,E,r⟩:=f;refine⟨u,QN _ A,C,D,E,λy b hd l=>?_⟩;have f:=Qf.1 b;rcases f with b|b
  ·exact r y b hd l
  ·rw [Qc.1 b] at l ⊢;have:=r z o c (e.trans l);omega
 ·have f:=Qf.1 b;rcases f with b|b
  ·exact h.all y b hd
  ·rw [Qc.1 b,<-e];exact h.all z o c
theorem zCy{c:Nat}{S:List StD}{dir:Int}{w:World}(h:SlF w (.slice a n c) S)(hn:S.length<=100000):
  Sp PP F.qag #[.slice a n c,.int .i64 dir] w λv w'=>(∃b m,v=.map (some b)/\MapB PP E.qb w' b m/\LeaM S dir m/\m.length<=S.length/\w.heap.size<=b)/\Stp w w':=by
 have r:=h.len;obtain rfl:=r;refine eN ?_;refine rmkNB (kt:=E.qb) (κ:=Int) rfl λH w1 n1 U=>?_;have V:=n1.lo (u:=w);refine cnt TBok 13 [7,8,9] 13 S.length (λk u=>∃m,MapB PP E.qb u H m/\LeaM (S.take k) dir m/\m.length<=k/\Stp w u) rfl rfl ⟨[],U,⟨by simp,by simp⟩,by simp,stp⟩ ?_;rintro k g u hk ⟨m,M,C,W,X⟩;have t:=M.2;refine ite (λhlt=>?_) (λY=>?_)
 ·have f:k<S.length:=by omega
  have o:S.take (k+1)=S.take k++[S[k]]:=take_add f;refine rix (h.up (w':=u)) (x:=S[k]) (by simp) λb1 o1 Z=>rloadA Z rfl (ral λb2 u2 n2 z2=>?_);have a0:=n2.b;have a1:=n2.s;refine rE z2 (S[k]) λI p f3=>?_;have p:Bk I b2 (enc S[k]) E.qf:=p;have a4:=M.lt;have s3:Stp u I:=⟨Fr.st (lE u u2) f3 λi hi=>by omega⟩;have A:MapB PP E.qb I H m:=M.up;refine rX p rfl ?_
  cases G:getM m S[k].key.v with
  |none =>
   have D:∀y∈S.take k,y.key.dir=dir->y.key.v=S[k].key.v->S[k].d<=y.d:=λy J hd e=>by
    have r:=C.all y J hd;obtain⟨v,hv⟩:=r;have:=zAJ t hv;rw [e,G] at this;cases this
   refine rlookN A.l S[k].key.v rfl G ?_;refine rX p rfl (ite (λhd=>?_) (λhd=>?_))
   ·refine rX p rfl (rX p rfl ?_);refine rupdB A S[k].key.v rfl λu6 K L _=>?_;exact rA ⟨rfl,f,_,K,by rw [o];exact C.set t hd D,Qw (zC8 _ _ _) (by omega),⟨Fr.st (Le.e (a:=w)) L λi hi=>by omega⟩⟩
   ·exact rA ⟨rfl,f,m,A,by rw [o];exact C.skip hd,by omega,stp⟩
  |some v =>
   have N:=zAY G;have r:=C.val _ N;obtain⟨z,h1,h2,O,R,h5⟩:=r;simp only at O R;subst R;refine rlookS A.l S[k].key.v rfl G ?_;refine rX p rfl (ite (λhd=>?_) (λhd=>?_))
   ·refine rX p rfl (ite (λT=>?_) (λT=>?_))
    ·have D:∀y∈S.take k,y.key.dir=dir->y.key.v=S[k].key.v->S[k].d<=y.d:=λy J Q e=>by
      have:=h5 y J Q (e.trans O);omega
     refine rX p rfl (rX p rfl ?_);refine rupdB A S[k].key.v rfl λu6 K L _=>?_;exact rA ⟨rfl,f,_,K,by rw [o];exact C.set t hd D,Qw (zC8 _ _ _) (by omega),⟨Fr.st (Le.e (a:=w)) L λi hi=>by omega⟩⟩
    ·exact rA ⟨rfl,f,m,A,by rw [o];exact C.keep h1 h2 O.symm T,by omega,stp⟩
   ·exact rA ⟨rfl,f,m,A,by rw [o];exact C.skip hd,by omega,stp⟩
 ·have r:k=S.length:=by omega
  obtain rfl:=r;rw [Qg] at C;exact⟨⟨H,m,rfl,M,C,W,V⟩,X⟩
theorem zAO(f:Bool)(n:Int)(a:Option Addr)(m c:Nat):∀u∈[Value.bool f,.int .i64 n,.slice a m c],u.oneCell'=true:=by
 intro u b;simp at b;rcases b with rfl|rfl|rfl <;> rfl
def MeetI (mb done:List (Int×Value)) (f:Bool) (n:Int):Prop:=
 (f=false/\n=0/\∀p∈done,getM mb p.1=none) \/
 (f=true/\(∃p∈done,∃b d:Int,getM mb p.1=some (.int .i64 b)/\p.2=.int .i64 d/\n=d+b)/\∀p∈done,∀b d:Int,getM mb p.1=some (.int .i64 b)->p.2=.int .i64 d->n<=d+b)
theorem LeaM.get{S:List StD}{dir:Int}{m:List (Int×Value)}(h:LeaM S dir m){k:Int}{v:Value}(e:getM m k=some v):∃z∈S,z.key.dir=dir/\z.key.v=k/\v=.int .i64 z.d/\∀y∈S,y.key.dir=dir->y.key.v=k->z.d<=y.d:=by
 have f:=h.val _ (zAY e);obtain⟨z,l,o,b,c,p⟩:=f;simp only at b c;exact⟨z,l,o,b.symm,c,λy r hd t=>p y r hd (t.trans b)⟩
def meetP (S:List StD):AnP:=match minL (sums S) with
 |some m=>⟨true,m,[]⟩
 |none=>zAn
theorem zON{S:List StD}{Z K:List (Int×Value)}{f:Bool}{n:Int}(A:LeaM S 0 Z)(B:LeaM S 1 K)(o:(K.map (·.1)).Nodup)(h:MeetI K Z f n):(meetP S)=⟨f,n,[]⟩:=by
 rcases h with ⟨rfl,rfl,h1⟩|⟨rfl,⟨p,hp,b,d,hb,hd,rfl⟩,h2⟩
 ·have:sums S=[]:=by
   cases hs:sums S with
   |nil=>rfl
   |cons y r =>
    have L:y∈sums S:=by rw [hs];exact Qs
    have c:=zC3.1 L;obtain⟨x,M,z,N,e,l,O,_⟩:=c;have c:=A.all x M e;obtain⟨v,Q⟩:=c;have hn:=h1 _ Q;have c:=B.all z N l;obtain⟨v',R⟩:=c;have:=zAJ o R;rw [O] at this;simp only at hn;rw [hn] at this;cases this
  unfold meetP;rw [this];rfl
 ·have hm:minL (sums S)=some (d+b):=by
   have c:=A.val p hp;obtain⟨x,M,e,T,w,a0⟩:=c;have c:=B.get hb;obtain⟨z,N,U,l,V,a1⟩:=c;rw [hd] at w;cases w;cases V;refine zFn.2 ⟨zC3.2 ⟨x,M,z,N,e,U,l.trans T,rfl⟩,λy L=>?_⟩;have c:=zC3.1 L;obtain⟨x',C,z',D,h0,E,Q,rfl⟩:=c;have c:=A.all x' C h0;obtain⟨v,F⟩:=c;have c:=A.val _ F;obtain⟨u,hu,a4,G,H,W⟩:=c;have c:=B.all z' D E;obtain⟨v',I⟩:=c;have J:=zAJ o I;have c:=B.get J;obtain⟨t,ht,a5,a6,X,Y⟩:=c;simp only at G H;subst X;have:=h2 _ F t.d u.d (by simp only;rw [<-Q];exact J) H;have:=W x' C h0 G;have:=Y z' D E rfl;omega
  unfold meetP;rw [hm]
theorem MeetI.mem{r a b:List (Int×Value)}{f:Bool}{n:Int}(h:MeetI r a f n)(c:∀p,p∈b↔p∈a):MeetI r b f n:=by
 rcases h with ⟨d,e,l⟩|⟨d,⟨p,e,l⟩,t⟩
 ·exact .inl ⟨d,e,λp o=>l p ((c p).1 o)⟩
 ·exact .inr ⟨d,⟨p,(c p).2 e,l⟩,λp o=>t p ((c p).1 o)⟩
theorem MeetI.skip{l done:List (Int×Value)}{f:Bool}{n x:Int}{v:Value}(h:MeetI l done f n)(y:getM l x=none):MeetI l (done++[(x,v)]) f n:=by
 rcases h with ⟨o,r,t⟩|⟨o,⟨p,r,t⟩,z⟩
 ·refine .inl ⟨o,r,λp c=>?_⟩;have w:=Qf.1 c;rcases w with c|c
  ·exact t p c
  ·rw [Qc.1 c];exact y
 ·refine .inr ⟨o,⟨p,QN _ r,t⟩,λp c b d e hd=>?_⟩;have w:=Qf.1 c;rcases w with c|c
  ·exact z p c b d e hd
  ·rw [Qc.1 c] at e;simp only at e;rw [y] at e;cases e
theorem MeetI.more{f done:List (Int×Value)}{n x d b:Int}(h:MeetI f done true n)(r:getM f x=some (.int .i64 b))(l:n<=d+b):MeetI f (done++[(x,.int .i64 d)]) true n:=by
 rcases h with ⟨o,_⟩|⟨o,⟨p,t,v⟩,w⟩
 ·cases o
 ·refine .inr ⟨rfl,⟨p,QN _ t,v⟩,λp c y z e hd=>?_⟩;have A:=Qf.1 c;rcases A with c|c
  ·exact w p c y z e hd
  ·rw [Qc.1 c] at e hd;simp only at e hd;rw [r] at e;cases e;cases hd;exact l
theorem MeetI.best{l done:List (Int×Value)}{f:Bool}{n x d b:Int}(h:MeetI l done f n)(r:getM l x=some (.int .i64 b))(o:f=true->d+b<n):MeetI l (done++[(x,.int .i64 d)]) true (d+b):=by
 refine .inr ⟨rfl,⟨_,JJ _ (Qc.2 rfl),b,d,r,rfl,rfl⟩,λp e v w c hd=>?_⟩;have y:=Qf.1 e;rcases y with e|e
 ·rcases h with ⟨t,C,z⟩|⟨t,_,A⟩
  ·rw [z p e] at c;cases c
  ·have:=A p e v w c hd;have:=o t;omega
 ·rw [Qc.1 e] at c hd;simp only at c hd;rw [r] at c;cases c;cases hd;exact Vr _
theorem zKq{c:Nat}{S:List StD}{w:World}(h:SlF w (.slice a n c) S)(hn:S.length<=100000)(hd:∀x∈S,0<=x.d/\x.d<=1000):
  Sp PP F.z1 #[.slice a n c] w λv w'=>v=agg (⟨(meetP S).found,(meetP S).num,⟨none,0,0⟩⟩:AnsD)/\Stp w w':=by
 refine eN ?_;refine ral λbr w1 n1 R1=>ral λV w2 n2 A2=>?_;have a9:=n1.b;have b1:=n1.s;have b2:=n2.b;have b3:=n2.s;have R1:Bk w1 br [.bool false,.int .i64 0,.slice none 0 0] E.qd:=R1;have A2:Bk w2 V [.bool false,.int .i64 0,.slice none 0 0] E.qd:=A2;refine rcall (zCy (dir:=1) (h.up (w':=w2)) hn) ?_;rintro _ w3 ⟨⟨bb,U,rfl,MB,LB,b4,b5⟩,e3⟩;refine rcall (zCy (dir:=0) (h.up (w':=w3)) hn) ?_;rintro _ w4 ⟨⟨b0,ma,rfl,MA,LA,b6,b7⟩,e4⟩;have z3:=e3.e.size;have z4:=e4.e.size;have a0:=MB.2;refine rnx rfl (rrangeM MA λr w5 nr a1 _=>?_);have hr:=nr.b;have b8:=nr.s
 refine loop0G TBok 14 [5,6,7,8] (λi u=>∃(done rest:List (Int×Value)) (f:Bool) (I:Int),rest.length=i/\(done++rest).Perm ma/\MeetI U done f I/\Bk u V [.bool f,.int .i64 I,.slice none 0 0] E.qd/\Bk u br [.bool false,.int .i64 0,.slice none 0 0] E.qd/\MapB PP E.qb u bb U/\ItB PP E.qb u r b0 rest/\Stp w u) rfl
  ⟨_,[],ma,false,0,rfl,.refl _,.inl ⟨rfl,rfl,by simp⟩,A2.mv,R1.mv,MB.up,a1,stp⟩ ?_
 rintro i G u ⟨done,rest,f,I,hi,hp,W,KA,KR,Mb,It,su⟩;refine rnx rfl (rnextM It (λL=>?_) λx v o u5 M X f5 b9=>?_)
 ·subst L;rw [QE] at hp;have e:=zON LA LB a0 (W.mem λp=>hp.mem_iff.symm);have e2:Value.agg [Value.bool f,.int .i64 I,.slice none 0 0].toArray=agg (⟨(meetP S).found,(meetP S).num,⟨none,0,0⟩⟩:AnsD):=by rw [e];rfl
  refine rldG (ds:=[.bool f,.int .i64 I,.slice none 0 0]) (B:=KA) rfl rfl (rS KR [.bool f,.int .i64 I,.slice none 0 0] (zAO _ _ _ _ _) λD N H=>?_);have N:Bk D br [.bool f,.int .i64 I,.slice none 0 0] E.qd:=N;have Y:Stp w D:=⟨Fr.st su.e H λi hi=>by omega⟩;exact rresG (B:=N) rfl ⟨e2,Y⟩
 ·have a4:(x,v)∈ma:=hp.mem_iff.1 (JJ _ (M.mem_iff.1 Qs));have⟨z,a5,c0,a6,Z,c1⟩:=LA.val _ a4;simp only at a6 Z;subst Z;have c2:=hd z a5;have la:=A2.lt;have lr:=R1.lt;have c3:=lz w2 w4;have A:=KA.fr f5 (by omega);have J:=KR.fr f5 (by omega);have c4:=MB.lt;have C:MapB PP E.qb u5 bb U:=Mb.fr f5 (by omega);have s5:Stp w u5:=⟨Fr.st su.e f5 λi hi=>by omega⟩
  have K:(done++[(x,Value.int .i64 z.d)]++o).Perm ma:=by
   rw [Qp];exact(Vp done M).trans hp
  have a7:=M.length_eq;rw [QA] at a7;refine rnx rfl (rentryM X ?_)
  cases O:getM U x with
  |none =>
   refine rlookN C.l x rfl O ?_;exact⟨o.length,by omega,_,o,f,I,rfl,K,W.skip O,A,J,C,X.b,s5⟩
  |some bv =>
   have q_:=LB.get O;obtain⟨t,a8,c5,c6,rfl,c7⟩:=q_;have c8:=hd t a8;refine rlookS C.l x rfl O ?_;refine rX A rfl ?_;have c9:V<u5.heap.size:=A.lt
   cases f with
   |false =>
    refine rarE (y:=z.d+t.d) rfl (by omega) (rbuild (cs:=[.bool true,.int .i64 (z.d+t.d),.slice none 0 0]) rfl (rS A [.bool true,.int .i64 (z.d+t.d),.slice none 0 0] (zAO _ _ _ _ _) λD Q H=>?_));have Q:Bk D V [.bool true,.int .i64 (z.d+t.d),.slice none 0 0] E.qd:=Q;have N:=J.fr H (by omega);have R:MapB PP E.qb D bb U:=C.fr H (by omega);have T:ItB PP E.qb D r b0 o:=X.b.fr H (by omega) (by omega);have Y:Stp w D:=⟨Fr.st s5.e H λi hi=>by omega⟩;exact⟨o.length,by omega,_,o,true,z.d+t.d,rfl,K,W.best O (λh=>nomatch h),Q,N,R,T,Y⟩
   |true =>
    refine rarE (y:=z.d+t.d) rfl (by omega) (rX A rfl (ite (λhl=>?_) (λhl=>?_)))
    ·refine rarE (y:=z.d+t.d) rfl (by omega) (rbuild (cs:=[.bool true,.int .i64 (z.d+t.d),.slice none 0 0]) rfl (rS A [.bool true,.int .i64 (z.d+t.d),.slice none 0 0] (zAO _ _ _ _ _) λD Q H=>?_));have Q:Bk D V [.bool true,.int .i64 (z.d+t.d),.slice none 0 0] E.qd:=Q;have N:=J.fr H (by omega);have R:MapB PP E.qb D bb U:=C.fr H (by omega);have T:ItB PP E.qb D r b0 o:=X.b.fr H (by omega) (by omega);have Y:Stp w D:=⟨Fr.st s5.e H λi hi=>by omega⟩;exact⟨o.length,by omega,_,o,true,z.d+t.d,rfl,K,W.best O (λ_=>hl),Q,N,R,T,Y⟩
    ·exact⟨o.length,by omega,_,o,true,I,rfl,K,W.more O (by omega),A,J,C,X.b,s5⟩
section
variable {P:Program} {kt:TypeId} {κ:Type} [DecidableEq κ] [M:MKey P kt κ] {D:Nat->Prop} {k:Value->Prop} {w:World}
theorem tlookN{t e:TypeId}{z:Value}{sz c:Nat}[p:MapT P t kt e][r:Elem P e z sz c]{b:Nat}{m:List (κ×Value)}{d:Value}(h:MapL P kt w b m)(hd:¬D b)(x:κ)(f:d=M.val x)(l:getM m x=none)(o:k (.tuple #[z,.bool false])):TakeS P (Instr.lookup t (.map (some b)) d true) D k w:=
 tlook2 h hd x f (by rw [l];exact o)
theorem tlookS{t e:TypeId}{z:Value}{sz c:Nat}[p:MapT P t kt e][r:Elem P e z sz c]{b:Nat}{m:List (κ×Value)}{d:Value}(h:MapL P kt w b m)(hd:¬D b)(x:κ)(f:d=M.val x){v:Value}(l:getM m x=some v)(o:k (.tuple #[v,.bool true])):TakeS P (Instr.lookup t (.map (some b)) d true) D k w:=
 tlook2 h hd x f (by rw [l];exact o)
end
def AnsO (B:Nat) (w:World) (v:Value) (p:AnP):Prop:=∃x:AnsD,v=agg x/\x.found=p.found/\x.num=p.num/\Own B E.qi w (.slice x.s.a x.s.n x.s.c) p.hits
theorem zNH(pl:List Int)(S:List StD)(x:StD):hitsL pl (S++[x])=hitsL pl S++if x.key.dir=0/\x.key.v∈pl then [⟨x.key.v,x.d⟩] else []:=by
 unfold hitsL;rw [QV,QB];congr 1;by_cases h:x.key.dir=0/\x.key.v∈pl
 ·simp [h]
 ·rw [if_neg h];have b:x.key.dir=0->x.key.v∉pl:=λc e=>h ⟨c,e⟩;simpa using b
theorem zFj(pl:List Int)(S:List StD):(hitsL pl S).length<=S.length:=by
 unfold hitsL;rw [Qr];exact Qv _ _
theorem zLs(g:GrD)(b:List ByteArray):(placesL g b).length<=g.n:=by
 unfold placesL;rw [Qr];exact Qw (Qv _ _) (by simp)
theorem zKp{xq:RQ}{ws:List ByteArray}{ps:List RPo}{c c2:Nat}{S:List StD}{w:World}(V:QyV w xq q)(Z:GrIs g)(h:SlF w (.slice a n c) ps)(M:PosM w g ws ps)(J:ps.length<=100000)
  (h2:SlF w (.slice a2 n2 c2) S)(a0:S.length<=1000)(K:q.words≠[])(a1:q.words.length<=1000):
  Sp PP F.qbd #[agg xq,.slice a n c,.slice a2 n2 c2] w λv w'=>AnsO w.heap.size w' v ⟨!(firstK q.most (hitsL (placesL g q.words) S)).isEmpty,0,firstK q.most (hitsL (placesL g q.words) S)⟩/\Stp w w':=by
 have f:=h.len;obtain rfl:=f;have f:=h2.len;obtain rfl:=f;have a4:=Z.ok.n2;have L:=zLs g q.words;obtain⟨k1,k2,k3,kw,k4,k5⟩:=V;refine eN ?_;refine rbx λbq w1 n1 Bq=>ral λbr w2 n2 N=>?_;have N:Bk w2 br [.bool false,.int .i64 0,.slice none 0 0] E.qd:=N;have a5:=n1.b;have a6:=n1.s;have a7:=n2.b;have a8:=n2.s;refine rX Bq rfl (rcall (zIb (h.up (w':=w2)) (M.up (w':=w2)) Z J (kw.up (w':=w2)) K (by omega)) ?_);rintro _ Q ⟨⟨pv,rfl,OP⟩,e3⟩;refine iF (· rfl) ?_;have f:=OP.shape;obtain⟨pa,pc,rfl⟩:=f;refine cnt1 TBok 24 [11] 9 24 S.length (λk v u=>Own Q.heap.size E.qi u v (hitsL (placesL g q.words) (S.take k))/\Stp Q u) rfl rfl ⟨Own.nil _ _ _,stp⟩ ?_;rintro k v G u hk ⟨O,su⟩;refine ite (λhlt=>?_) (λa9=>?_)
 ·have l:k<S.length:=by omega
  have e:=zNH (placesL g q.words) (S.take k) S[k];rw [<-take_add l] at e;have A:=zFj (placesL g q.words) (S.take k);rw [Qm] at A;refine rix (h2.up (w':=u)) (x:=S[k]) (by simp) λb4 o4 A4=>rloadA A4 rfl (ral λb5 u5 n5 z5=>?_);have b0:=n5.b;have b1:=n5.s;refine rE z5 (S[k]) λH p f6=>?_;have p:Bk H b5 (enc S[k]) E.qf:=p;have s6:Stp u H:=⟨Fr.st (lE u u5) f6 λi hi=>by omega⟩;refine rX p rfl (ite (λhd=>?_) (λhd=>?_))
  ·refine rX p rfl (rcall (zDd (x:=S[k].key.v) (OP.sl.up (w':=H)) (by omega)) ?_);rintro _ u7 ⟨⟨rfl,I⟩|⟨rfl,I⟩,e7⟩
   ·rw [if_pos ⟨hd,I⟩] at e;refine rX p rfl (rX p rfl ?_);refine rbuild (cs:=enc (⟨S[k].key.v,S[k].d⟩:HitD)) rfl (rbs1 (⟨S[k].key.v,S[k].d⟩:HitD) rfl rfl (by decide) λb8 u8 n8 _ S8=>rapp1 (u:=Q) ⟨rfl,rfl⟩ (O.up (w':=u8)) S8 (by omega) λv9 u9 O9 f9 s9=>?_);rw [<-e] at O9;exact rA ⟨rfl,l,O9,stp⟩
   ·rw [if_neg (λh=>I h.2),QE] at e;have C:=O.up (w':=u7);rw [<-e] at C;exact rA ⟨rfl,l,C,stp⟩
  ·rw [if_neg (λh=>hd h.1),QE] at e;have C:=O.up (w':=H);rw [<-e] at C;exact rA ⟨rfl,l,C,stp⟩
 ·have f:k=S.length:=by omega
  obtain rfl:=f;rw [Qg] at O;have A:=zFj (placesL g q.words) S;have f:=O.shape;obtain⟨ha,I,rfl⟩:=f;refine rX Bq rfl (rcall (zJh (k:=xq.most) (O.sl) (by omega)) ?_);rintro v R ⟨T,e2⟩;have U:(if xq.most<1 then [] else firstQ xq.most (hitsL (placesL g q.words) S))=firstK q.most (hitsL (placesL g q.words) S):=by rw [k5];rfl
  rw [U] at T;have W:=N.mv (w:=R);have zu:=lz w u;have f:=T.shape;obtain⟨t,y,rfl⟩:=f
  have fin:∀(o:World) (b:Bool),b = !(firstK q.most (hitsL (placesL g q.words) S)).isEmpty->Fr (λi=>i=br) R o->AnsO w.heap.size o (.agg [Value.bool b,.int .i64 0,.slice t (firstK q.most (hitsL (placesL g q.words) S)).length y].toArray) ⟨!(firstK q.most (hitsL (placesL g q.words) S)).isEmpty,0,firstK q.most (hitsL (placesL g q.words) S)⟩/\Stp w o:=λo b D z =>
   ⟨⟨⟨b,0,⟨t,(firstK q.most (hitsL (placesL g q.words) S)).length,y⟩⟩,rfl,D,rfl,(T.mono zu).frc z W (by decide)⟩,⟨Fr.st (lE w R) z λi hi=>by omega⟩⟩
  refine ite (λhgt=>?_) (λhgt=>?_)
  ·have D:true = !(firstK q.most (hitsL (placesL g q.words) S)).isEmpty:=by
    cases X:firstK q.most (hitsL (placesL g q.words) S) with
    |nil=>rw [X] at hgt;simp at hgt
    |cons x r=>rfl
   refine rbuild (cs:=[.bool true,.int .i64 0,.slice t (firstK q.most (hitsL (placesL g q.words) S)).length y]) rfl (rS W [.bool true,.int .i64 0,.slice t (firstK q.most (hitsL (placesL g q.words) S)).length y] (zAO _ _ _ _ _) λo Y z=>?_);exact rresG (B:=Y) rfl (fin o true D z)
  ·have D:false = !(firstK q.most (hitsL (placesL g q.words) S)).isEmpty:=by
    cases X:firstK q.most (hitsL (placesL g q.words) S) with
    |nil=>rfl
    |cons x r=>rw [X] at hgt;exact absurd hgt (by simp <;> omega)
   refine rbuild (cs:=[.bool false,.int .i64 0,.slice t (firstK q.most (hitsL (placesL g q.words) S)).length y]) rfl (rS W [.bool false,.int .i64 0,.slice t (firstK q.most (hitsL (placesL g q.words) S)).length y] (zAO _ _ _ _ _) λo Y z=>?_);exact rresG (B:=Y) rfl (fin o false D z)
theorem zG0{x:StD}{b:Nat}{d:Int}{w:World}(K:Bk w b [.int .i64 d] E.qb):Sp PP F.yk #[agg x,.pointer (some ⟨b,0,none⟩)] w λv w'=>Tells (x.key.dir=d) v/\Stp w w':=by
 refine eN ?_;refine rbx λe w1 n1 c=>rX c rfl (rX K rfl ?_);exact ite (λh=>⟨.t h,stp⟩) (λh=>⟨.f h,stp⟩)
theorem zDO{M:List StD}{o:Nat}{d:Int}{c:Nat}{w:World}(K:Bk w o [.slice a n c] E.qn)(h:SlF w (.slice a n c) M)(r:M.length<=1000000):Sp PP F.cs #[.int .i64 d,.pointer (some ⟨o,0,none⟩)] w λv w'=>v=.bool (hasDir M d)/\Stp w w':=by
 refine eN ?_;refine rbx λt w1 n1 z=>rX K rfl (rcall (zBV (g:=F.yk) (first:=[]) (cap:=[.pointer (some ⟨t,0,none⟩)]) (p:=λx=>x.key.dir=d) (h.up (w':=w1)) r λx u D e=>zG0 (z.fr e nf)) ?_);rintro _ w2 ⟨⟨rfl,b⟩|⟨rfl,b⟩,G⟩
 ·have:hasDir M d=true:=by
   obtain⟨y,f,l⟩:=b;exact Vi.2 ⟨y,f,by simpa using l⟩
  rw [this];exact⟨rfl,stp⟩
 ·have:hasDir M d=false:=by
   rw [Bool.eq_false_iff];intro l;have A:=Vi.1 l;obtain⟨y,f,C⟩:=A;exact b ⟨y,f,by simpa using C⟩
  rw [this];exact⟨rfl,stp⟩
theorem zFr{xq:RQ}{ws:List ByteArray}{ps:List RPo}{c c2 c3:Nat}{S M:List StD}{w:World}(V:QyV w xq q)(hq:QyOk q g.n)(U:GrIs g)(h:SlF w (.slice a n c) ps)(Mp:PosM w g ws ps)(a0:ps.length<=100000)
  (Z:SlF w (.slice a2 n2 c2) S)(a1:S.length<=1000)(a4:∀x∈S,0<=x.d/\x.d<=1000)(h3:SlF w (.slice a3 n3 c3) M)(b2:M.length<=1000):
  Sp PP F.yh #[agg xq,.slice a n c,.slice a2 n2 c2,.slice a3 n3 c3] w λv w'=>(∃t,v=.tuple #[t,.bool (doneL g q S M).2]/\AnsO w.heap.size w' t (doneL g q S M).1)/\Stp w w':=by
 have C:=h3.len;obtain rfl:=C;have C:=Z.len;obtain rfl:=C;have C:=h.len;obtain rfl:=C;have a5:=hq.kind;obtain⟨k1,k2,k3,kw,k4,k5⟩:=V;refine eN ?_;refine rbx λbq w1 n1 Bq=>rbx λbm w2 n2 Bm=>ral λI D n3 N=>?_;have N:Bk D I [.bool false,.int .i64 0,.slice none 0 0] E.qd:=N;have b3:=n1.b;have b4:=n1.s;have b6:=n2.b;have b7:=n2.s;have b8:=n3.b;have b9:=n3.s;refine rX Bq rfl (ite (λh1=>?_) (λh1=>?_))
 ·have O:doneL g q S M=distL S M:=by unfold doneL;rw [if_pos (by omega)]
  have MS:=zKq (Z.up (w':=D)) (by omega) a4
  have e2:distL S M=((meetP S),(meetP S).found || (!hasDir M 0 || !hasDir M 1)):=by
   unfold distL meetP;cases minL (sums S) <;> rfl
  have A:(meetP S).hits=[]:=by unfold meetP;cases minL (sums S) <;> rfl
  generalize meetP S=P at MS e2 A;obtain⟨pf,pn,ph⟩:=P;simp only at A;subst A;have MS:Sp PP F.z1 #[.slice a2 S.length c2] D λv w'=>v=.agg #[.bool pf,.int .i64 pn,.slice none 0 0]/\Stp D w':=MS;refine rcall MS ?_;rintro _ L ⟨rfl,e4⟩;refine ral λba w5 n5 Z5=>?_;have c0:=n5.b;have c1:=n5.s;refine rS Z5 [.bool pf,.int .i64 pn,.slice none 0 0] (zAO _ _ _ _ _) λG A6 f6=>?_;have A6:Bk G ba [.bool pf,.int .i64 pn,.slice none 0 0] E.qd:=A6;have s6:Stp L G:=⟨Fr.st (lE L w5) f6 λi hi=>by omega⟩;clear Z5 f6;have J:=N.mv (w:=G);have lr:=N.lt;have c4:=lz D L;have W:ba≠I:=by omega
  have fin:∀(u u':World) (b:Bool),Stp G u->Bk u' I [.bool pf,.int .i64 pn,.slice none 0 0] E.qd->Fr (λi=>i=I) u u'->b=(pf || (!hasDir M 0 || !hasDir M 1))->(∃t,Value.tuple #[.agg [Value.bool pf,.int .i64 pn,.slice none 0 0].toArray,.bool b]=.tuple #[t,.bool (doneL g q S M).2]/\AnsO w.heap.size u' t (doneL g q S M).1)/\Stp w u':=λu u' b s _ f hb=>by
   rw [O,e2,hb];exact⟨⟨_,rfl,⟨pf,pn,⟨none,0,0⟩⟩,rfl,rfl,rfl,Own.nil _ _ _⟩,⟨Fr.st (lE w u) f λi hi=>by omega⟩⟩
  refine dD (λi=>i=I) (upF 15 0) λw7 e7=>tldG (ds:=[.bool pf,.int .i64 pn,.slice none 0 0]) (B:=A6) rfl rfl W (tX A6 rfl W ?_)
  cases pf with
  |true =>
   refine rS J [.bool _,.int .i64 pn,.slice none 0 0] (zAO _ _ _ _ _) λy p o=>⟨o,?_⟩;refine rresG (B:=p) rfl ?_;exact fin _ _ true stp p o rfl
  |false =>
   have D0:=zDO (d:=0) (Bm.mv (w:=w7)) (h3.up (w':=w7)) (by omega)
   cases H:hasDir M 0 with
   |false =>
    rw [H] at D0;refine rcall D0 ?_;rintro _ w8 ⟨rfl,e8⟩;refine⟨Fr.fr e8.e,?_⟩;refine rS J [.bool _,.int .i64 pn,.slice none 0 0] (zAO _ _ _ _ _) λy p o=>⟨o,?_⟩;refine rresG (B:=p) rfl ?_;exact fin _ _ true stp p o (by rw [H];rfl)
   |true =>
    rw [H] at D0;refine rcall D0 ?_;rintro _ w8 ⟨rfl,e8⟩;refine⟨Fr.fr e8.e,?_⟩;have D1:=zDO (d:=1) (Bm.mv (w:=w8)) (h3.up (w':=w8)) (by omega)
    cases K:hasDir M 1 with
    |false =>
     rw [K] at D1;refine rcall D1 ?_;rintro _ w9 ⟨rfl,e9⟩;refine⟨Fr.fr e9.e,?_⟩;refine rS J [.bool _,.int .i64 pn,.slice none 0 0] (zAO _ _ _ _ _) λy p o=>⟨o,?_⟩;refine rresG (B:=p) rfl ?_;exact fin _ _ true stp p o (by rw [H,K];rfl)
    |true =>
     rw [K] at D1;refine rcall D1 ?_;rintro _ w9 ⟨rfl,e9⟩;refine⟨Fr.fr e9.e,?_⟩;refine rS J [.bool _,.int .i64 pn,.slice none 0 0] (zAO _ _ _ _ _) λy p o=>⟨o,?_⟩;refine rresG (B:=p) rfl ?_;exact fin _ _ false stp p o (by rw [H,K];rfl)
 refine ite (λa6=>?_) (λa6=>?_)
 ·have O:doneL g q S M=reachL q.to S M:=by unfold doneL;rw [if_neg (by omega),if_pos (by omega)]
  refine dD (λ_=>False) [0,2,3,1,4,5,6,7,8,9] λL e4=>tX Bq rfl nf (rcall (zCy (dir:=0) (Z.up (w':=L)) (by omega)) ?_);rintro _ w5 ⟨⟨b5,m5,rfl,M5,L5,_,_⟩,e5⟩;refine⟨e5.e,?_⟩;have R5:=N.mv (w:=w5)
  cases U:getM m5 xq.to with
  |none =>
   have Q:reachL q.to S M=(zAn,M.isEmpty):=by
    unfold reachL;rw [if_neg];intro X;have C:=Vi.1 X;obtain⟨x,hx,h4⟩:=C;simp only [decide_eq_true_eq] at h4;have C:=L5.all x hx h4.1;obtain⟨v,hv⟩:=C;have:=zAJ M5.2 hv;rw [h4.2,<-k3,U] at this;cases this
   refine tlookN M5.l nf xq.to rfl U ?_;refine dD (λi=>i=I) (upF 10 0) λG e6=>tbuild (cs:=[.bool false,.int .i64 0,.slice none 0 0]) rfl ?_;have J:=R5.mv (w:=G);have a7:bm≠I:=by omega
   refine tX Bm rfl a7 ?_
   have fin:∀(u:World) (b:Bool),Fr (λi=>i=I) G u->b=M.isEmpty->(∃t,Value.tuple #[.agg [Value.bool false,.int .i64 0,.slice none 0 0].toArray,.bool b]=.tuple #[t,.bool (doneL g q S M).2]/\AnsO w.heap.size u t (doneL g q S M).1)/\Stp w u:=λu b f hb=>by
    rw [O,Q,hb];exact⟨⟨_,rfl,⟨false,0,⟨none,0,0⟩⟩,rfl,rfl,rfl,Own.nil _ _ _⟩,⟨Fr.st (lE w G) f λi hi=>by omega⟩⟩
   refine ite (λh0=>?_) (λh0=>?_)
   ·have R:true=M.isEmpty:=by
     cases M with
     |nil=>rfl
     |cons x r=>exact absurd h0 (by simp;omega)
    refine rS J [.bool false,.int .i64 0,.slice none 0 0] (zAO _ _ _ _ _) λy p o=>⟨o,?_⟩;exact rresG (B:=p) rfl (fin y true o R)
   ·have R:false=M.isEmpty:=by
     cases M with
     |nil=>exact absurd rfl h0
     |cons x r=>rfl
    refine rS J [.bool false,.int .i64 0,.slice none 0 0] (zAO _ _ _ _ _) λy p o=>⟨o,?_⟩;exact rresG (B:=p) rfl (fin y false o R)
  |some v =>
   have Q:reachL q.to S M=(⟨true,0,[]⟩,true):=by
    unfold reachL;rw [if_pos];have C:=L5.get U;obtain⟨z,hz,a8,a9,_⟩:=C;exact Vi.2 ⟨z,hz,by simp only [decide_eq_true_eq];exact⟨a8,by rw [a9,k3]⟩⟩
   refine tlookS M5.l nf xq.to rfl U ?_;refine dD (λi=>i=I) (upF 10 0) λG e6=>tbuild (cs:=[.bool true,.int .i64 0,.slice none 0 0]) rfl ?_;have J:=R5.mv (w:=G);refine rS J [.bool true,.int .i64 0,.slice none 0 0] (zAO _ _ _ _ _) λy p o=>⟨o,?_⟩;refine rresG (B:=p) rfl ?_
   have fin:(∃t,Value.tuple #[.agg [Value.bool true,.int .i64 0,.slice none 0 0].toArray,.bool true]=.tuple #[t,.bool (doneL g q S M).2]/\AnsO w.heap.size y t (doneL g q S M).1)/\Stp w y:=by
    rw [O,Q];exact⟨⟨_,rfl,⟨true,0,⟨none,0,0⟩⟩,rfl,rfl,rfl,Own.nil _ _ _⟩,⟨Fr.st (lE w G) o λi hi=>by omega⟩⟩
   exact fin
 refine ite (λY=>?_) (λY=>absurd a5 (by omega));have O:doneL g q S M=nearL (placesL g q.words) q.most S M:=by unfold doneL;rw [if_neg (by omega),if_neg (by omega),if_pos (by omega)]
 have T:=hq.near (by omega);refine rX Bm rfl (ite (λh0=>?_) (λh0=>?_))
 ·have R:M.isEmpty=false:=by
   cases M with
   |nil=>exact absurd h0 (by simp)
   |cons x r=>rfl
  have Q:nearL (placesL g q.words) q.most S M=(zAn,false):=by unfold nearL;rw [R];rfl
  refine rbuild (cs:=[.bool false,.int .i64 0,.slice none 0 0]) rfl (rS N [.bool false,.int .i64 0,.slice none 0 0] (zAO _ _ _ _ _) λy p o=>rresG (B:=p) rfl ?_)
  have fin:(∃t,Value.tuple #[.agg [Value.bool false,.int .i64 0,.slice none 0 0].toArray,.bool false]=.tuple #[t,.bool (doneL g q S M).2]/\AnsO w.heap.size y t (doneL g q S M).1)/\Stp w y:=by
   rw [O,Q];exact⟨⟨_,rfl,⟨false,0,⟨none,0,0⟩⟩,rfl,rfl,rfl,Own.nil _ _ _⟩,⟨Fr.st (lE w D) o λi hi=>by omega⟩⟩
  exact fin
 ·have R:M.isEmpty=true:=by
   cases M with
   |nil=>rfl
   |cons x r=>exact absurd (show (0:Int)<((x::r).length:Int) by simp <;> omega) (by omega)
  have Q:nearL (placesL g q.words) q.most S M=(⟨!(firstK q.most (hitsL (placesL g q.words) S)).isEmpty,0,firstK q.most (hitsL (placesL g q.words) S)⟩,true):=by unfold nearL;rw [R];rfl
  refine rG Bq xq (rcall (zKp (q:=q) ⟨k1,k2,k3,kw.up (w':=D),k4,k5⟩ U (h.up (w':=D)) (Mp.up (w':=D)) a0 (Z.up (w':=D)) a1 (by intro h;have:=T.1;rw [h] at this;simp at this) (by omega)) ?_);rintro v L ⟨⟨x,rfl,b0,b1,OX⟩,e4⟩;have R4:=N.mv (w:=L);refine rE R4 x λy p o=>?_;have p:Bk y I (enc x) E.qd:=p;refine rresG (B:=p) rfl ?_
  have fin:(∃t,Value.tuple #[.agg (enc x).toArray,.bool true]=.tuple #[t,.bool (doneL g q S M).2]/\AnsO w.heap.size y t (doneL g q S M).1)/\Stp w y:=by
   rw [O,Q];exact⟨⟨_,rfl,x,rfl,b0,b1,(OX.mono (lz w D)).frc o R4 (by decide)⟩,⟨Fr.st (lE w L) o λi hi=>by omega⟩⟩
  exact fin
end Go.W
namespace Go.W
open Go
variable {B i j k m n n2 n3:Nat} {P:Program} {a a2 a3:Option Addr} {g:GrD} {ps:List Int} {q:QyD} {s:List UInt8} {u u' w' w1 w2:World}
abbrev Hs:=List (Option (RqD×Nat))
theorem zOd{f f':Nat->Nat}(h:∀j,j≠k->f' j=f j):∀n,k<n->((List.range n).map f').sum+f k=((List.range n).map f).sum+f' k:=by
 intro n
 induction n with
 |zero=>intro d;omega
 |succ n e =>
  intro d;rw [Jm,QB,QB,XV,XV];simp only [QS,JP,List.sum_cons,List.sum_nil];have b:=QH k n;rcases b with c|c
  ·have:=e c;have:=h n (by omega);omega
  ·have b:k=n:=by omega
   obtain rfl:=b
   have:((List.range k).map f')=((List.range k).map f):=by
    apply Ja;intro j l;exact h j (by have:=Q0.1 l;omega)
   rw [this];omega
def cntW (g:GrD) (W:Nat) (w:Nat) (o:Option (RqD×Nat)) (k:Nat):Nat:=((sts1 g o k).filter λx=>decide (homW W x.key.v=w)).length
theorem zEn(g:GrD)(W:Nat)(h:Hs)(w:Nat):liveW g W h w=((List.range h.length).map λk=>cntW g W w (h.getD k none) k).sum:=by
 unfold liveW allS cntW;rw [List.filter_flatMap,List.length_flatMap]
theorem zAz{α:Type}{l:List α}{x z:α}(b:k<l.length):(l.set k x).getD j z=if j=k then x else l.getD j z:=by
 rw [Qk,Qk,Vw];by_cases e:k=j
 ·subst e;simp [b]
 ·simp [e,Jq e]
theorem zGS{W w:Nat}{h:Hs}(b:k<h.length)(o:Option (RqD×Nat)):liveW g W (h.set k o) w+cntW g W w (h.getD k none) k=liveW g W h w+cntW g W w o k:=by
 rw [zEn,zEn,Jc];have:=zOd (f:=λk=>cntW g W w (h.getD k none) k) (f':=λj=>cntW g W w ((h.set k o).getD j none) j) (k:=k) (λj c=>by simp only [zAz b,if_neg c]) h.length b;have e:(h.set k o).getD k none=o:=by rw [zAz b,if_pos rfl]
 rw [e] at this;exact this
theorem zOv(g:GrD)(W w k:Nat):cntW g W w none k=0:=rfl
theorem zJO(g:GrD)(W w k:Nat)(x:RqD):cntW g W w (some (x,0)) k=0:=rfl
theorem zB8{c:CfD}{h:Hs}:overS g c h=true↔∃w,w<c.workers/\c.pool<liveW g c.workers h w:=by
 simp [overS]
theorem zDN{c:CfD}{h b:Hs}(e:∀w,liveW g c.workers b w<=liveW g c.workers h w)(d:overS g c h=false):overS g c b=false:=by
 rw [<-Vy,zB8] at d ⊢;rintro⟨w,f,l⟩;exact d ⟨w,f,by have:=e w;omega⟩
theorem zFk{W:Nat}{h:Hs}(b:k<h.length)(w:Nat):liveW g W (h.set k none) w<=liveW g W h w:=by
 have:=zGS (g:=g) (W:=W) (w:=w) b none;rw [zOv] at this;omega
def idsW (l:List RqD):List Int:=l.map (·.id)
def idsH (h:Hs):List Int:=h.filterMap λo=>o.map (·.1.id)
structure RqOk (g:GrD) (x:RqD):Prop where
 q:QyIs x.q g.n
 id:0<=x.id/\x.id<=2147483647
structure SvOk (g:GrD) (c:CfD) (s:SvD):Prop where
 len:s.held.length=c.slots
 wl:s.wait.length<=c.queue
 wait:∀x∈s.wait,RqOk g x
 held:∀x i,some (x,i)∈s.held->RqOk g x/\i<c.budget
 ids:(idsH s.held++idsW s.wait).Nodup
 pool:overS g c s.held=false
structure CfOk (c:CfD):Prop where
 workers:1<=c.workers/\c.workers<=16
 slots:1<=c.slots/\c.slots<=64
 queue:1<=c.queue/\c.queue<=1000
 pool:1<=c.pool/\c.pool<=400
 budget:1<=c.budget/\c.budget<=1000
theorem zOO{h:Hs}{id:Int}:id∈idsH h↔∃x i,some (x,i)∈h/\x.id=id:=by
 unfold idsH;rw [List.mem_filterMap];constructor
 ·rintro⟨o,b,e⟩
  cases o with
  |none=>cases e
  |some p=>exact⟨p.1,p.2,b,QL e⟩
 ·rintro⟨x,i,c,rfl⟩;exact⟨_,c,rfl⟩
theorem zCK{h:Hs}(b:k<h.length)(o:Option (RqD×Nat)):idsH (h.set k o)=idsH (h.take k)++(o.map (·.1.id)).toList++idsH (h.drop (k+1)):=by
 rw [Vn,if_pos b];unfold idsH;rw [XP,List.filterMap_cons,Qp];cases o <;> simp
theorem zGO{h:Hs}(b:k<h.length):idsH h=idsH (h.take k)++((h.getD k none).map (·.1.id)).toList++idsH (h.drop (k+1)):=by
 have:=zCK b (h.getD k none)
 have e:h.set k (h.getD k none)=h:=by
  rw [Qk,Qd b];simp
 rw [e] at this;exact this
theorem zIO{h:Hs}(b:k<h.length){x:RqD}(e:h.getD k none=some (x,i)):idsH (h.set k (some (x,j)))=idsH h:=by
 rw [zCK b,zGO b,e];rfl
theorem zDj{h:Hs}(b:k<h.length){x:RqD}(e:h.getD k none=some (x,i)):(x.id::idsH (h.set k none)).Perm (idsH h):=by
 rw [zCK b,zGO b,e];simp only [Option.map_none,Option.toList_none,QE,JD,Yb,Qp,List.singleton_append];exact List.perm_middle.symm
theorem zJ1{h:Hs}(b:k<h.length)(e:h.getD k none=none)(x:RqD)(i:Nat):(x.id::idsH h).Perm (idsH (h.set k (some (x,i)))):=by
 rw [zCK b,zGO b,e];simp only [Option.map_none,Option.toList_none,QE,JD,Yb,Qp,List.singleton_append];exact List.perm_middle.symm
theorem zAo{h:Hs}{p:RqD×Nat}(e:h.getD k none=some p):k<h.length/\some p∈h:=by
 have c:=QH k h.length;rcases c with b|b
 ·refine⟨b,?_⟩;rw [Qk,Qd b] at e;exact e ▸ Qa b
 ·rw [Qk,Jg b] at e;cases e
theorem zB7{h:Hs}{o:Option (RqD×Nat)}{x:RqD}(c:some (x,i)∈h.set k o):some (x,i)∈h\/o=some (x,i):=by
 have d:=List.mem_or_eq_of_mem_set c;rcases d with b|b
 ·exact .inl b
 ·exact .inr b.symm
theorem zCo{h:Hs}(e:freeS h=some k):k<h.length/\h.getD k none=none:=by
 unfold freeS at e;rw [JB] at e;obtain⟨b,c,_⟩:=e;refine⟨b,?_⟩;rw [Qk,Qd b];simpa using c
theorem zNC{h:Hs}(e:freeS h=none):∀o∈h,o≠none:=by
 unfold freeS at e;rw [Ve] at e;intro o b c;have:=e o b;rw [c] at this;cases this
theorem zJH{c:CfD}(o:CfOk c):∀(l:List RqD) (h:Hs),SvOk g c ⟨l,h⟩->SvOk g c ⟨(admitS l h).1,(admitS l h).2⟩/\(idsH (admitS l h).2++idsW (admitS l h).1).Perm (idsH h++idsW l)
 |[],h,s=>⟨s,.refl _⟩
 |x::r,h,s=>by
  unfold admitS
  cases e:freeS h with
  |none=>exact⟨s,.refl _⟩
  |some k =>
   have b:=zCo e;obtain⟨p,v⟩:=b
   have t:(idsH (h.set k (some (x,0)))++idsW r).Perm (idsH h++idsW (x::r)):=by
    refine((zJ1 p v x 0).symm.append_right _).trans ?_;show (x.id::idsH h++idsW r).Perm (idsH h++(x.id::idsW r));exact List.perm_middle.symm
   have s':SvOk g c ⟨r,h.set k (some (x,0))⟩:=by
    refine⟨by simpa using s.len,by have:=s.wl;simp at this ⊢;omega,λy d=>s.wait y (QF _ d),λy i d=>?_,t.nodup_iff.2 s.ids,?_⟩
    ·have b:=zB7 d;rcases b with f|f
     ·exact s.held y i f
     ·cases f;exact⟨s.wait x Qs,by have:=o.budget.1;omega⟩
    ·refine zDN (λw=>?_) s.pool;have:=zGS (g:=g) (W:=c.workers) (w:=w) p (some (x,0));rw [zJO] at this;dsimp only;omega
   have:=zJH o r _ s';exact⟨this.1,this.2.trans t⟩
theorem zGD{c : CfD}{h : Hs} : (h.getD k none = none /\ stepS g c h k = (h, none)) \/ ∃ x i, h.getD k none = some (x, i) /\
    ((overS g c (h.set k (some (x, i + 1))) = true /\ stepS g c h k = (h.set k none, some (repB x.id 250 zAn))) \/
     (overS g c (h.set k (some (x, i + 1))) = false /\ (doneL g x.q (sts g x.q k (i + 1)) (mls g x.q k (i + 1))).2 = true /\ stepS g c h k = (h.set k none, some (repB x.id 0 (doneL g x.q (sts g x.q k (i + 1)) (mls g x.q k (i + 1))).1))) \/
     (overS g c (h.set k (some (x, i + 1))) = false /\ (doneL g x.q (sts g x.q k (i + 1)) (mls g x.q k (i + 1))).2 = false /\ c.budget <= i + 1 /\ stepS g c h k = (h.set k none, some (repB x.id 251 zAn))) \/
     (overS g c (h.set k (some (x, i + 1))) = false /\ (doneL g x.q (sts g x.q k (i + 1)) (mls g x.q k (i + 1))).2 = false /\ i + 1 < c.budget /\ stepS g c h k = (h.set k (some (x, i + 1)), none))) := by
  unfold stepS
  cases e : h.getD k none with
  | none => exact .inl ⟨rfl, rfl⟩
  | some p =>
    obtain ⟨x, i⟩ := p;refine .inr ⟨x, i, rfl, ?_⟩;dsimp only;by_cases f : overS g c (h.set k (some (x, i + 1))) = true
    · exact .inl ⟨f, by rw [if_pos f]⟩
    · right
      rw [if_neg f];have b : overS g c (h.set k (some (x, i + 1))) = false := by simpa using f
      by_cases l : (doneL g x.q (sts g x.q k (i + 1)) (mls g x.q k (i + 1))).2 = true
      · exact .inl ⟨b, l, by rw [if_pos l]⟩
      · right
        rw [if_neg l];have d : (doneL g x.q (sts g x.q k (i + 1)) (mls g x.q k (i + 1))).2 = false := by simpa using l
        by_cases o : c.budget <= i + 1
        · exact .inl ⟨b, d, o, by rw [if_pos o]⟩
        · exact .inr ⟨b, d, by omega, by rw [if_neg o]⟩
noncomputable def repIds (g:GrD) (c:CfD) (h:Hs) (k:Nat):List Int:=match h.getD k none,(stepS g c h k).2 with
 |some (x,_),some _=>[x.id]
 |_,_=>[]
theorem zIs{c:CfD}{h:Hs}{l:List RqD}(k:Nat)(s:SvOk g c ⟨l,h⟩):SvOk g c ⟨l,(stepS g c h k).1⟩/\(repIds g c h k++idsH (stepS g c h k).1).Perm (idsH h):=by
 have d:=zGD (g:=g) (c:=c) (h:=h) (k:=k);rcases d with ⟨e,o⟩|⟨x,i,e,o⟩
 ·rw [o];refine⟨s,?_⟩;unfold repIds;rw [e];exact .refl _
 ·have d:=zAo e;obtain⟨f,v⟩:=d;have w:=s.held x i v
  have drop:∀t,stepS g c h k=(h.set k none,some t)->SvOk g c ⟨l,(stepS g c h k).1⟩/\(repIds g c h k++idsH (stepS g c h k).1).Perm (idsH h):=λt z=>by
   unfold repIds;rw [z,e];refine⟨⟨by simpa using s.len,s.wl,s.wait,λy j p=>?_,?_,zDN (zFk f) s.pool⟩,zDj f e⟩
   ·have d:=zB7 p;rcases d with b|b
    ·exact s.held y j b
    ·cases b
   ·have:=((zDj f e).append_right (idsW l)).nodup_iff.2 s.ids;rw [VO,JC] at this;exact this.2
  rcases o with ⟨_,b⟩|⟨_,_,b⟩|⟨_,_,_,b⟩|⟨A,_,C,b⟩
  ·exact drop _ b
  ·exact drop _ b
  ·exact drop _ b
  ·unfold repIds;rw [b,e];refine⟨⟨by simpa using s.len,s.wl,s.wait,λy j p=>?_,by rw [zIO f e];exact s.ids,A⟩,by rw [zIO f e];exact .refl _⟩;have d:=zB7 p;rcases d with r|r
   ·exact s.held y j r
   ·cases r;exact⟨w.1,C⟩
theorem zMN{l:List RqD}{id:Int}(e:waitAt l id=some k):∃b:k<l.length,l[k].id=id:=by
 unfold waitAt at e;rw [JB] at e;obtain⟨b,c,_⟩:=e;exact⟨b,by simpa using c⟩
theorem zJg{l:List RqD}{id:Int}:waitAt l id=none↔id∉idsW l:=by
 unfold waitAt idsW;rw [Ve];simp only [decide_eq_false_iff_not,Qq,not_exists,not_and]
theorem zH4{h:Hs}{id:Int}(e:heldAt h id=some k):∃x i,h.getD k none=some (x,i)/\x.id=id:=by
 unfold heldAt at e;rw [JB] at e;obtain⟨c,b,_⟩:=e;split at b
 ·rename_i x i d;exact⟨x,i,by rw [Qk,Qd c,d];rfl,by simpa using b⟩
 ·cases b
theorem zIK{h:Hs}{id:Int}:heldAt h id=none↔id∉idsH h:=by
 unfold heldAt;rw [Ve,zOO];constructor
 ·rintro b ⟨x,i,d,e⟩;have:=b _ d;simp [e] at this
 ·intro b o c
  match o,c with
  |none,_=>rfl
  |some (x,i),c=>exact decide_eq_false λe=>b ⟨x,i,c,e⟩
theorem zPx{c:CfD}{s:SvD}(h:SvOk g c s)(id:Int):SvOk g c (backS s id).1 /\
  ((∃e:(backS s id).2=253,(id::(idsH (backS s id).1.held++idsW (backS s id).1.wait)).Perm (idsH s.held++idsW s.wait))\/((backS s id).2=141/\(backS s id).1=s/\id∉idsH s.held++idsW s.wait)):=by
 unfold backS
 cases e:waitAt s.wait id with
 |some k =>
  have d:=zMN e;obtain⟨p,f⟩:=d
  have r:(id::idsW (s.wait.eraseIdx k)).Perm (idsW s.wait):=by
   unfold idsW
   have l:(s.wait[k]::s.wait.eraseIdx k).Perm s.wait:=by
    rw [Jp];have e:s.wait.take k++s.wait[k]::s.wait.drop (k+1)=s.wait:=by rw [<-JS p,JW]
    have:=XH (a:=s.wait[k]) (l₁:=s.wait.take k) (l₂:=s.wait.drop (k+1));exact this.symm.trans (by rw [e])
   have:=l.map (·.id);rw [QS,f] at this;exact this
  have b:(id::(idsH s.held++idsW (s.wait.eraseIdx k))).Perm (idsH s.held++idsW s.wait):=List.perm_middle.symm.trans (r.append_left _);refine⟨⟨h.len,?_,λx z=>h.wait x (List.mem_of_mem_eraseIdx z),h.held,?_,h.pool⟩,.inl ⟨rfl,b⟩⟩
  ·have:=h.wl;have:=List.length_eraseIdx_le s.wait k;dsimp only;omega
  ·have:=b.nodup_iff.2 h.ids;exact(JC.1 this).2
 |none =>
  dsimp only
  cases v:heldAt s.held id with
  |some k =>
   have d:=zH4 v;obtain⟨x,i,p,f⟩:=d;have d:=zAo p;obtain⟨o,w⟩:=d;have r:=zDj o p;rw [f] at r;have b:(id::(idsH (s.held.set k none)++idsW s.wait)).Perm (idsH s.held++idsW s.wait):=r.append_right _;refine⟨⟨by simpa using h.len,h.wl,h.wait,λy j A=>?_,(JC.1 (b.nodup_iff.2 h.ids)).2,zDN (zFk o) h.pool⟩,.inl ⟨rfl,b⟩⟩;have d:=zB7 A;rcases d with t|t
   ·exact h.held y j t
   ·cases t
  |none =>
   refine⟨h,.inr ⟨rfl,rfl,λw=>?_⟩⟩;have d:=Qf.1 w;rcases d with l|l
   ·exact zIK.1 v l
   ·exact zJg.1 e l
theorem ask_ok{c:CfD}{s:SvD}(h:SvOk g c s){x:RqD}(d:0<=x.id/\x.id<=2147483647):
  ((askS g c s x (QyIs x.q g.n)).2=0/\(askS g c s x (QyIs x.q g.n)).1=⟨s.wait++[x],s.held⟩/\SvOk g c ⟨s.wait++[x],s.held⟩/\x.id∉idsH s.held++idsW s.wait) \/
  ((askS g c s x (QyIs x.q g.n)).2=180\/(askS g c s x (QyIs x.q g.n)).2=150\/(askS g c s x (QyIs x.q g.n)).2=252)/\(askS g c s x (QyIs x.q g.n)).1=s:=by
 unfold askS;by_cases h0:QyIs x.q g.n
 case neg=>rw [if_neg h0];exact .inr ⟨.inl rfl,rfl⟩
 rw [if_pos h0]
 cases e:heldAt s.held x.id with
 |some k=>exact .inr ⟨.inr (.inl rfl),rfl⟩
 |none =>
  rw [if_neg (by simp)]
  cases p:waitAt s.wait x.id with
  |some k=>exact .inr ⟨.inr (.inl rfl),rfl⟩
  |none =>
   rw [if_neg (by simp)];by_cases l:c.queue<=s.wait.length
   ·rw [if_pos l];exact .inr ⟨.inr (.inr rfl),rfl⟩
   ·rw [if_neg l]
    have o:x.id∉idsH s.held++idsW s.wait:=λr=>by
     have f:=Qf.1 r;rcases f with b|b
     ·exact zIK.1 e b
     ·exact zJg.1 p b
    refine .inl ⟨rfl,rfl,⟨h.len,by simp;omega,λy t=>?_,h.held,?_,h.pool⟩,o⟩
    ·have f:=Qf.1 t;rcases f with b|b
     ·exact h.wait y b
     ·rw [Qc] at b;subst b;exact⟨h0,d⟩
    ·show (idsH s.held++(s.wait++[x]).map (·.id)).Nodup;rw [QB,<-Qp];have:(idsH s.held++idsW s.wait++[x.id]).Perm (x.id::(idsH s.held++idsW s.wait)):=VE ..;exact this.nodup_iff.2 (JC.2 ⟨o,h.ids⟩)
def newS (c:CfD):SvD:=⟨[],List.replicate c.slots none⟩
theorem zNI(n:Nat):idsH (List.replicate n none)=[]:=by
 unfold idsH;rw [List.filterMap_eq_nil_iff];intro o b;rw [(VW.1 b).2];rfl
theorem zNL(g:GrD)(W n w:Nat):liveW g W (List.replicate n none) w=0:=by
 rw [zEn]
 have:((List.range (List.replicate n (none:Option (RqD×Nat))).length).map λk=>cntW g W w ((List.replicate n none).getD k none) k)=(List.range (List.replicate n (none:Option (RqD×Nat))).length).map λ_=>0:=by
  apply Ja;intro k _
  have:(List.replicate n (none:Option (RqD×Nat))).getD k none=none:=by
   rw [Qk,Vk];split <;> rfl
  rw [this];rfl
 rw [this];clear this;generalize (List.replicate n (none:Option (RqD×Nat))).length=m
 induction m with
 |zero=>rfl
 |succ m b=>rw [Jm,QB,XV,b];rfl
theorem new_ok(g:GrD)(c:CfD):SvOk g c (newS c):=by
 refine⟨by simp [newS],by simp [newS],by simp [newS],λx i h=>?_,by simp [newS,zNI,idsW],?_⟩
 ·have:=(VW.1 h).2;cases this
 ·rw [<-Vy,zB8];rintro⟨w,_,h⟩;have:liveW g c.workers (newS c).held w=0:=zNL g c.workers c.slots w;omega
end Go.W
namespace Go.W
open Go Go.Proofs
open Enc (enc)
set_option maxRecDepth 10000
variable {B i j k m n n2 n3:Nat} {P:Program} {a a2 a3:Option Addr} {g:GrD} {ps:List Int} {q:QyD} {s:List UInt8} {u u' w' w1 w2:World}
theorem zA6{n m:Int}{w:World}:Sp PP F.dw #[.int .i64 n,.int .i64 m] w λv w'=>Tells (1<=n/\n<=m) v/\w'=w:=by
 refine eN ?_;refine ite (λb=>?_) (λb=>⟨.f λh=>b h.1,rfl⟩);exact ite (λc=>⟨.t ⟨b,c⟩,rfl⟩) (λc=>⟨.f λh=>c h.2,rfl⟩)
theorem zIj{id b:Int}{a:AnP}(h:RepOk (repOf id b a) a.hits):repB id b a=encR (repOf id b a) a.hits:=if_pos h
theorem zIi{id b:Int}{a:AnP}(h:¬RepOk (repOf id b a) a.hits):repB id b a=[]:=if_neg h
theorem zB0{id e:Int}{w:World}:Sp PP F.d7 #[.int .i64 id,.int .i64 e] w λv w'=>v=txt (repB id e zAn)/\Stp w w':=by
 refine eN ?_;refine rbuild (cs:=enc (repOf id e zAn)) rfl (rcall (zCB (x:=repOf id e zAn) (l:=[]) (SlF.nil' _ _ _) (by simp)) ?_);rintro _ w1 ⟨⟨b,rfl⟩|⟨c,rfl⟩,d⟩
 ·exact⟨congrArg txt (zIj (a:=zAn) b).symm,stp⟩
 ·exact⟨congrArg txt (zIi (a:=zAn) c).symm,stp⟩
end Go.W
