/-
  Proved here: parts of this claim.
  Conditions: told at each.
-/
import Derived.Test.YtneehpnmjhjocaaGreatK5
set_option maxHeartbeats 4000000
set_option linter.unusedVariables false
set_option linter.unusedSimpArgs false
namespace Go.W
open Go Go.Proofs
open Enc (enc)
set_option maxRecDepth 10000
variable {B N i j k m n n2 n3:Nat} {D:Nat -> Prop} {P:Program} {a a2 a3:Option Addr} {g:GrD} {q:QyD} {s:List UInt8} {u u' w':World}
theorem zPN{x:RCfg}{im:List UInt8}(c:im.length<=4611686018427387904){w:World}:
  Sp PP 10 #[agg x,txt im] w λv w'=>((errN x im≠0/\v=.tuple #[.pointer none,.int .i64 (errN x im)]) \/
   ∃g bs,cfgOk x/\imgOf im=some g/\errN x im=0/\v=.tuple #[.pointer (some ⟨bs,0,none⟩),.int .i64 0]/\SrvP (λi=>w.heap.size<=i/\i<w'.heap.size) w.heap.size w' bs g (cfOf x) (newS (cfOf x)))/\Stp w w':=
 (zJN c).mono λv w' ⟨h,e⟩=>⟨by
  rcases h with ⟨b,rfl⟩|⟨b,hi,rfl⟩|⟨g,bs,b,hi,rfl,S⟩
  ·left;unfold errN;rw [if_neg b];exact⟨by decide,rfl⟩
  ·left;unfold errN;rw [if_pos b,if_pos hi];exact⟨by decide,rfl⟩
  ·right;exact⟨g,bs,b,hi,zDo.2 ⟨b,g,hi⟩,rfl,S⟩,e⟩
theorem zA4(l:List REv):(evD l).length=l.length:=by simp [evD]
theorem zIj{l:List REv}(h:k<l.length):(evD l)[k]'(by rw [zA4];exact h)=((l[k]).tick,(l[k]).frame):=by simp [evD]
def RanT (x:RCfg) (im:List UInt8) (l:List REv) (w:World) (v:Value) (w':World):Prop:=
 (errA x im l.length≠0/\v=.tuple #[.pointer none,.int .i64 (errA x im l.length)]) \/
 ∃g br bs X B,w.heap.size<=B/\cfgOk x/\imgOf im=some g/\errA x im l.length=0/\v=.tuple #[.pointer (some ⟨br,0,none⟩),.int .i64 0]/\RunP X B w' br bs g (cfOf x) (audR g (cfOf x) (evD l))
theorem RunP.cf{X:Nat->Prop}{w:World}{b bs:Nat}{c:CfD}{r:AuD}(h:RunP X B w b bs g c r):CfOk c:=by
 obtain⟨R,d,e,S,_⟩:=h;exact S.ok.2.1
instance:Elem PP 224 .nilFunc 1 8:={}
theorem fn_one(f g:FuncId):∀u∈[Value.func (.func f) #[] #[],.func (.func g) #[] #[]],u.oneCell'=true:=by intro u b;simp at b;rcases b with rfl|rfl <;> rfl
theorem zFj{x:RCfg}{im:List UInt8}(R:im.length<=4611686018427387904){c:Nat}{l:List REv}{w:World}(h:SlF w (.slice a n c) l)(hm:EvsM w l)(hf:∀y∈l,y.frame.length<=4611686018427387904):
  Sp PP 74 #[agg x,txt im,.slice a n c] w λv w'=>RanT x im l w v w'/\Stp w w':=by
 have C:=h.len;obtain rfl:=C;refine eN ?_;refine rbx λb w1 n1 T=>?_;have T:Bk w1 b (enc x) 23:=T;refine ite (λh1=>?_) (λh1=>?_)
 ·have z:errA x im l.length=2:=if_pos (by omega);have U:Value.tuple #[.pointer none,.int .i64 2]=.tuple #[.pointer none,.int .i64 (errA x im l.length)]:=by rw [z]
  exact⟨.inl ⟨by rw [z];decide,U⟩,stp⟩
 have V:l.length<=1000:=by omega
 refine rldG (B:=T) rfl rfl ?_;refine rcall (zPN R) ?_;rintro _ w2 ⟨⟨z,rfl⟩|⟨g,bs,hc,hi,z,rfl,S⟩,e2⟩
 ·have f:errA x im l.length=errN x im:=if_neg (by omega);refine iT z ?_;have U:Value.tuple #[.pointer none,.int .i64 (errN x im)]=.tuple #[.pointer none,.int .i64 (errA x im l.length)]:=by rw [f]
  exact⟨.inl ⟨by rw [f];exact z,U⟩,stp⟩
 have f:errA x im l.length=0:=zCp.2 ⟨V,z⟩;have z2:=e2.e.size;refine iF (· rfl) (rbuild (cs:=[.pointer (some ⟨bs,0,none⟩),.slice none 0 0,.slice none 0 0]) rfl (rbx λA K n3 L=>?_));have L:Bk K A [.pointer (some ⟨bs,0,none⟩),.slice none 0 0,.slice none 0 0] 135:=L;have a5:=n3.lo (u:=w2);have a6:=L.lt;refine rbuildA (zero:=[.nilFunc,.nilFunc]) (sz:=1) (by kernel_rfl) (by kernel_rfl) (cs:=[.func (.func 139) #[] #[],.func (.func 140) #[] #[]]) rfl ?_;refine ral λo w4 n4 D4=>?_;have a7:=n4.lo (u:=K);have a4:=n4.b;refine rS D4 [.func (.func 139) #[] #[],.func (.func 140) #[] #[]] (fn_one _ _) λp M f5 _=>?_;have M:Bk p o [.func (.func 139) #[] #[],.func (.func 140) #[] #[]] 226:=M;have s5:Stp K p:=⟨Fr.st (lE K w4) f5 λi hi=>by omega⟩;have z5:=s5.e.size;have a8:=M.lt
 have Q5:RunP (λi=>i=o) w1.heap.size p A bs g (cfOf x) (audR g (cfOf x) []):=
  ⟨_,⟨none,0,0⟩,⟨none,0,0⟩,S.up (w':=p),L.mv (w:=p),Own.nil _ _ _,Own.nil _ _ _,(λb W=>nomatch W),(λb W=>nomatch W),λhr=>by omega,by omega,by omega,
   λi hi=>⟨by omega,λhr=>by omega,by omega,(λh=>nomatch h),(λh=>nomatch h)⟩⟩
 refine cN 32 [12,13] 32 l.length (λk u=>RunP (λi=>i=o) w1.heap.size u A bs g (cfOf x) (audR g (cfOf x) ((evD l).take k))/\Fr (λi=>w1.heap.size<=i/\¬i=o) p u) ⟨Q5,Fr.refl _ _⟩ ?_;rintro k G u hk ⟨Q,O⟩;have su:Stw w1 p u:=⟨O.mono λi _ hi=>hi.1⟩;have zu:=O.size;have Du:=M.fr O λh=>h.2 rfl;have a9:=zFW (g:=g) Q.cf ((evD l).take k);have b0:((evD l).take k).length<=1000:=by rw [Qm,zA4];omega
 refine ite (λhlt=>?_) (λb1=>?_)
 ·have d:k<l.length:=by omega
  have E:l[k]? = some l[k]:=by simp
  have C:∃y,y=l[k]:=⟨_,rfl⟩;obtain⟨y,X⟩:=C;rw [<-X] at E;have F:y∈l:=by rw [X];exact Qa d
  have C:=hm y F;obtain⟨ps,Y⟩:=C;have Z:=hf y F
  have a0:audR g (cfOf x) ((evD l).take (k+1))=audS g (cfOf x) (audR g (cfOf x) ((evD l).take k)) (y.tick,y.frame):=by
   rw [zFi (by rw [zA4];exact d),zIj d,<-X]
  refine rix (i:=k) (h.up (w':=u)) E λb6 o6 A6=>rloadA A6 rfl (ral λb7 w7 n7 X7=>rE X7 y λr H f8 _=>?_);have H:Bk r b7 (enc y) 36:=H;have b2:=n7.lo (u:=u);have t8:Stp u r:=⟨Fr.st (lE u w7) f8 λi hi=>by omega⟩;have z8:=t8.e.size;have Q8:=Q.up (u':=r)
  have I:∀v,Fr (λi=>w1.heap.size<=i) r v->SlF v y.picks.v ps:=λv fv=>by
   have t:Stw w1 r v:=⟨fv⟩;exact SlF.up (w:=w) Y
  have fin:∀u',RunP (λi=>i=o) w1.heap.size u' A bs g (cfOf x) (audS g (cfOf x) (audR g (cfOf x) ((evD l).take k)) (y.tick,y.frame))/\Fr (λi=>w1.heap.size<=i/\¬i=o) r u' ->
    RunP (λi=>i=o) w1.heap.size u' A bs g (cfOf x) (audR g (cfOf x) ((evD l).take (k+1)))/\Fr (λi=>w1.heap.size<=i/\¬i=o) p u':=λu' hu=>by
   rw [a0];exact⟨hu.1,(O.trans (Fr.fr t8.e)).trans hu.2⟩
  have Dt:=zGf (y:=y) Q8 (by omega) I (by omega);have Dc:=zGe (y:=y) Q8 (by omega) Z (by omega) (by omega);obtain⟨yt,yf,pa,pn,pc⟩:=y;refine rX H rfl ?_
  cases yt with
  |true =>
   refine rixA (i:=1) (by decide) ?_;refine rX (Du.mv (w:=r)) rfl (rldG (B:=H) rfl rfl ?_);refine rcall Dt ?_;rintro _ w9 h9;exact rA ⟨rfl,d,fin w9 h9⟩
  |false =>
   refine rixA (i:=0) (by decide) ?_;refine rX (Du.mv (w:=r)) rfl (rldG (B:=H) rfl rfl ?_);refine rcall Dc ?_;rintro _ w9 h9;exact rA ⟨rfl,d,fin w9 h9⟩
 ·have a1:k=l.length:=by omega
  have J:(evD l).take k=evD l:=by rw [a1,<-zA4 l,Qg]
  rw [J] at Q;exact⟨.inr ⟨g,A,bs,_,_,by have:=lz w w1;omega,hc,hi,f,rfl,Q⟩,stp⟩
theorem zAU(x:RCfg)(im:List UInt8)(l:List REv):errA x im (evD l).length=errA x im l.length:=by rw [zA4]
theorem zC2{x:RCfg}{im:List UInt8}(o:im.length<=4611686018427387904){c:Nat}{l:List REv}{w:World}(h:SlF w (.slice a n c) l)(E:EvsM w l)(F:∀y∈l,y.frame.length<=4611686018427387904):
  Sp PP 26 #[agg x,txt im,.slice a n c] w λv w'=>(∃z f,v=.tuple #[z,f,.int .i64 (errA x im l.length)]/\Own w.heap.size 9 w' z ((toldA x im (evD l)).map bsOf)/\Own w.heap.size 3 w' f (liveA x im (evD l)))/\Stp w w':=by
 refine eN ?_;refine rbx λb w1 n1 p=>?_;have p:Bk w1 b (enc x) 23:=p;refine rldG (B:=p) rfl rfl ?_;refine rcall (zFj o (h.up (w':=w1)) E.up F) ?_;rintro _ O ⟨⟨d,rfl⟩|⟨g,T,bs,X,B,U,V,hi,d,rfl,Q⟩,W⟩
 ·have r:toldA x im (evD l)=[]:=by unfold toldA;rw [if_neg (by rw [zAU];exact d)]
  have t:liveA x im (evD l)=[]:=by unfold liveA;rw [if_neg (by rw [zAU];exact d)]
  refine iT d ?_;refine⟨⟨_,_,rfl,?_,?_⟩,stp⟩
  ·rw [r];exact Own.nil _ _ _
  ·rw [t];exact Own.nil _ _ _
 ·have r:toldA x im (evD l)=(audR g (cfOf x) (evD l)).told:=by unfold toldA;rw [if_pos (by rw [zAU];exact d),zAY hi]
  have t:liveA x im (evD l)=(List.range (cfOf x).workers).map λk=>(liveW g (cfOf x).workers (audR g (cfOf x) (evD l)).s.held k:Int):=by unfold liveA;rw [if_pos (by rw [zAU];exact d),zAY hi]
  have Y:=lz w w1;obtain⟨R,⟨ta,A,tc⟩,⟨Z,kn,kc⟩,S,K,C,G,_⟩:=Q;dsimp only at K C G;refine iF (· rfl) (dQ 12 λH e3=>tX K rfl nf (tX K rfl nf ?_));refine rcall (zII (S.up (w':=H))) ?_;rintro f I ⟨J,L⟩;refine⟨L.e,?_⟩;have M:Value.tuple #[.slice ta A tc,f,.int .i64 0]=.tuple #[.slice ta A tc,f,.int .i64 (errA x im l.length)]:=by rw [d]
  refine⟨⟨_,_,M,?_,?_⟩,stp⟩
  ·rw [r];exact(C.up (w':=I)).mono (by omega)
  ·rw [t];exact J.older
theorem zDP{x:RCfg}{im:List UInt8}(e:im.length<=4611686018427387904){c:Nat}{l:List REv}{w:World}(h:SlF w (.slice a n c) l)(C:EvsM w l)(E:∀y∈l,y.frame.length<=4611686018427387904):
  Sp PP 28 #[agg x,txt im,.slice a n c] w λv w'=>(∃p,v=.tuple #[p,.int .i64 (errA x im l.length)]/\Own w.heap.size 3 w' p (tookA x im (evD l)))/\Stp w w':=by
 refine eN ?_;refine rbx λb w1 n1 f=>?_;have f:Bk w1 b (enc x) 23:=f;refine rldG (B:=f) rfl rfl ?_;refine rcall (zFj e (h.up (w':=w1)) C.up E) ?_;rintro _ H ⟨⟨d,rfl⟩|⟨g,I,bs,X,B,J,L,hi,d,rfl,Q⟩,M⟩
 ·have o:tookA x im (evD l)=[]:=by unfold tookA;rw [if_neg (by rw [zAU];exact d)]
  refine iT d ?_;refine⟨⟨_,rfl,?_⟩,stp⟩;rw [o];exact Own.nil _ _ _
 ·have o:tookA x im (evD l)=(audR g (cfOf x) (evD l)).took:=by unfold tookA;rw [if_pos (by rw [zAU];exact d),zAY hi]
  have O:=lz w w1;obtain⟨R,⟨ta,T,tc⟩,⟨r,t,z⟩,S,K,F,A,_⟩:=Q;dsimp only at K F A;refine iF (· rfl) (rX K rfl ?_);have G:Value.tuple #[.slice r t z,.int .i64 0]=.tuple #[.slice r t z,.int .i64 (errA x im l.length)]:=by rw [d]
  refine⟨⟨_,G,?_⟩,stp⟩;rw [o];exact A.mono (by omega)
def calmL (l:List REv):List REv:=l.map λy=>⟨y.tick,y.frame,none,0,0⟩
theorem zEh(l:List REv):(calmL l).length=l.length:=by simp [calmL]
theorem zET{c:Nat}{l:List REv}{w:World}(h:SlF w (.slice a n c) l)(T:l.length<=1000000):Sp PP 32 #[.slice a n c] w λv w'=>Own w.heap.size 36 w' v (calmL l)/\Stp w w':=by
 have t:=h.len;obtain rfl:=t;refine eN ?_;refine cO 8 [4,5] 3 8 l.length (λk v u=>Own w.heap.size 36 u v (calmL (l.take k))/\Stp w u) ⟨Own.nil _ _ _,stp⟩ ?_;rintro k v G u U ⟨O,x⟩;refine ite (λhlt=>?_) (λy=>?_)
 ·have b:k<l.length:=by omega
  have e:l[k]? = some l[k]:=by simp
  refine rix (i:=k) (h.up (w':=u)) e λV W z=>rloadA z rfl (ral λA C E F=>rE F (l[k]) λr d H _=>?_);have d:Bk r A (enc l[k]) 36:=d;have I:=E.lo (u:=u);have X:Stp u r:=⟨Fr.st (lE u C) H λi hi=>by omega⟩;refine rX d rfl (rX d rfl (rbuild (cs:=enc (⟨l[k].tick,l[k].frame,none,0,0⟩:REv)) rfl (bS (⟨l[k].tick,l[k].frame,none,0,0⟩:REv) λY J Z _ K=>?_)));have L:(calmL (l.take k)).length<=1000000:=by rw [zEh,Qm];omega
  refine rapp1 (u:=w) ⟨rfl,rfl⟩ (O.up (w':=J)) K (by omega) λM Q f R S=>rA ⟨rfl,b,?_,stp⟩;have o:calmL (l.take (k+1))=calmL (l.take k)++[⟨l[k].tick,l[k].frame,none,0,0⟩]:=by rw [take_add b];unfold calmL;rw [QB];rfl
  rw [o];exact f
 ·have p:k=l.length:=by omega
  rw [p,Qg] at O;exact⟨O,x⟩
theorem zNv{x:RCfg}{im:List UInt8}{c:Nat}{l:List REv}{w:World}(h:SlF w (.slice a n c) l):
  Sp PP 25 #[agg x,txt im,.slice a n c] w λv w'=>(v=.bool true\/(v=.bool false/\(l.length<=1000->EvsS l)/\l.length<=1100/\im.length<=400))/\Stp w w':=by
 have y:=h.len;obtain rfl:=y;refine eN ?_;refine rbx λb w1 n1 p=>?_;have d:Sp PP 39 #[.slice a l.length c] w1 λv w'=>(v=.bool true\/(v=.bool false/\EvsS l))/\Stp w1 w':=zNI h.up;have f:¬(400:Int)<(⟨im.toArray⟩:ByteArray).size->Sp PP 39 #[.slice a l.length c] w1 λv w'=>(v=.bool true\/(v=.bool false/\EvsS l))/\Stp w1 w':=λ_=>d;clear f;refine rX p rfl (ite (λz=>?_) (λz=>?_))
 ·exact⟨.inl rfl,stp⟩
 refine rX p rfl (ite (λA=>?_) (λA=>?_))
 ·refine rX p rfl (ite (λC=>?_) (λC=>?_))
  ·exact⟨.inl rfl,stp⟩
  refine ite (λo=>?_) (λo=>?_)
  ·exact⟨.inl rfl,stp⟩
  rw [zAd] at o;refine rcall d ?_;rintro v E ⟨rfl|⟨rfl,r⟩,F⟩
  ·refine ite (λt=>?_) (λt=>?_)
   ·exact⟨.inl rfl,stp⟩
   refine ite (λe=>?_) (λe=>?_)
   ·exact⟨.inl rfl,stp⟩
   exact⟨.inr ⟨rfl,λh=>absurd h (by omega),by omega,by omega⟩,stp⟩
  ·refine ite (λe=>?_) (λe=>?_)
   ·exact⟨.inl rfl,stp⟩
   exact⟨.inr ⟨rfl,λ_=>r,by omega,by omega⟩,stp⟩
 ·refine ite (λo=>?_) (λo=>?_)
  ·exact⟨.inl rfl,stp⟩
  rw [zAd] at o;refine rcall d ?_;rintro v E ⟨rfl|⟨rfl,r⟩,F⟩
  ·refine ite (λt=>?_) (λt=>?_)
   ·exact⟨.inl rfl,stp⟩
   refine ite (λe=>?_) (λe=>?_)
   ·exact⟨.inl rfl,stp⟩
   exact⟨.inr ⟨rfl,λh=>absurd h (by omega),by omega,by omega⟩,stp⟩
  ·refine ite (λe=>?_) (λe=>?_)
   ·exact⟨.inl rfl,stp⟩
   exact⟨.inr ⟨rfl,λ_=>r,by omega,by omega⟩,stp⟩
abbrev x1:RCfg:=⟨1,1,1,9,9⟩
def ev0:List REv:=[⟨false,[7,1,0,1],⟨none,0,0⟩⟩,⟨false,[8,1,0,1],⟨none,0,0⟩⟩,⟨true,[],⟨none,0,0⟩⟩,⟨true,[],⟨none,0,0⟩⟩,⟨true,[],⟨none,0,0⟩⟩]
theorem audR0:audR g0 c0 (evD ev0)=⟨⟨[],[none]⟩,[[8,252,1],[7,0,1,1,0]],[7]⟩:=by
 have b:audS g0 c0 ⟨newS c0,[],[]⟩ (false,[7,1,0,1])=⟨⟨[x7],[none]⟩,[],[7]⟩:=by
  rw [zBk (by rw [come7])];rw [come7,req7];rfl
 have a2:audS g0 c0 ⟨⟨[x7],[none]⟩,[],[7]⟩ (false,[8,1,0,1])=⟨⟨[x7],[none]⟩,[[8,252,1]],[7]⟩:=by
  rw [zBS (t:=[8,252,1]) (by rw [come8])];rw [come8];rfl
 have a3:audS g0 c0 ⟨⟨[x7],[none]⟩,[[8,252,1]],[7]⟩ (true,[])=⟨⟨[],h0 1⟩,[[8,252,1]],[7]⟩:=by
  rw [zBl,tick7a];rfl
 have c:audS g0 c0 ⟨⟨[],h0 1⟩,[[8,252,1]],[7]⟩ (true,[])=⟨⟨[],[none]⟩,[[8,252,1],[7,0,1,1,0]],[7]⟩:=by
  rw [zBl,tick7b];rfl
 have d:audS g0 c0 ⟨⟨[],[none]⟩,[[8,252,1],[7,0,1,1,0]],[7]⟩ (true,[])=⟨⟨[],[none]⟩,[[8,252,1],[7,0,1,1,0]],[7]⟩:=by
  rw [zBl,tick7c];rfl
 show audS g0 c0 (audS g0 c0 (audS g0 c0 (audS g0 c0 (audS g0 c0 ⟨newS c0,[],[]⟩ (false,[7,1,0,1])) (false,[8,1,0,1])) (true,[])) (true,[])) (true,[])=_;rw [b,a2,a3,c,d]
theorem cfg1:cfgOk x1:=by unfold cfgOk;decide
theorem err0:errA x1 im0 ev0.length=0:=zCp.2 ⟨by decide,zDo.2 ⟨cfg1,g0,im0_g⟩⟩
theorem err0':errA x1 im0 (evD ev0).length=0:=by rw [zAU];exact err0
theorem imgE:imgOf []=none:=by
 cases e:imgOf [] with
 |none=>rfl
 |some g=>unfold imgOf rdI at e;cases e
theorem errE:errA x1 [] ev0.length=30:=by
 unfold errA errN;rw [if_neg (by decide),if_pos cfg1,if_pos imgE]
theorem told0:toldA x1 im0 (evD ev0)=[[8,252,1],[7,0,1,1,0]]:=by
 unfold toldA;rw [if_pos err0',zAY im0_g];show (audR g0 c0 (evD ev0)).told=_;rw [audR0]
theorem took0:tookA x1 im0 (evD ev0)=[7]:=by
 unfold tookA;rw [if_pos err0',zAY im0_g];show (audR g0 c0 (evD ev0)).took=_;rw [audR0]
theorem live0:liveA x1 im0 (evD ev0)=[0]:=by
 unfold liveA;rw [if_pos err0',zAY im0_g];show (List.range c0.workers).map (λk=>(liveW g0 c0.workers (audR g0 c0 (evD ev0)).s.held k:Int))=_;rw [audR0];exact live7
theorem ev0_m(w:World):EvsM w ev0:=λy b=>by
 simp only [ev0,Ql,Xf,or_false] at b;rcases b with rfl|rfl|rfl|rfl|rfl <;> exact⟨[],SlF.nil w⟩
theorem ev0_f:∀y∈ev0,y.frame.length<=4611686018427387904:=λy b=>by
 simp only [ev0,Ql,Xf,or_false] at b;rcases b with rfl|rfl|rfl|rfl|rfl <;> decide
theorem zIp{w:World}:Sp PP 30 #[] w λv w'=>v=.bool true/\Stp w w':=by
 refine eN ?_;refine rbuild (cs:=enc x1) rfl (ral λb w1 n1 M=>rE M x1 λA p O _=>?_);have p:Bk A b (enc x1) 23:=p;have s2:Stp w A:=⟨Fr.st (lE w w1) O λi hi=>by subst hi;exact n1.lo⟩;refine rbuild (cs:=enc (⟨false,[7,1,0,1],⟨none,0,0⟩⟩:REv)) rfl (rbuild (cs:=enc (⟨false,[8,1,0,1],⟨none,0,0⟩⟩:REv)) rfl (rbuild (cs:=enc (⟨true,[],⟨none,0,0⟩⟩:REv)) rfl (rbuild (cs:=enc (⟨true,[],⟨none,0,0⟩⟩:REv)) rfl (rbuild (cs:=enc (⟨true,[],⟨none,0,0⟩⟩:REv)) rfl (rbs (vs:=[agg (⟨false,[7,1,0,1],⟨none,0,0⟩⟩:REv),agg (⟨false,[8,1,0,1],⟨none,0,0⟩⟩:REv),agg (⟨true,[],⟨none,0,0⟩⟩:REv),agg (⟨true,[],⟨none,0,0⟩⟩:REv),agg (⟨true,[],⟨none,0,0⟩⟩:REv)]) ev0 rfl rfl rfl (by decide) λC o n3 y=>?_)))));have s3:Stp A o:=⟨n3.ext⟩;refine rldG (B:=p) rfl rfl ?_
 have Q:Sp PP 26 #[agg x1,txt im0,.slice (some ⟨C,0,none⟩) 5 5] o λv w'=>(∃c d,v=.tuple #[c,d,.int .i64 0]/\Own o.heap.size 9 w' c (([[8,252,1],[7,0,1,1,0]]:List (List UInt8)).map bsOf)/\Own o.heap.size 3 w' d ([0]:List Int))/\Stp o w':=by
  have:=zC2 (x:=x1) (im:=im0) (l:=ev0) (w:=o) (by decide) y (ev0_m _) ev0_f;rw [err0,told0,live0] at this;exact this
 refine rcall Q ?_;rintro _ r ⟨⟨c,d,rfl,R,S⟩,e4⟩;refine rldG (B:=p) rfl rfl ?_
 have T:Sp PP 28 #[agg x1,txt im0,.slice (some ⟨C,0,none⟩) 5 5] r λv w'=>(∃E,v=.tuple #[E,.int .i64 0]/\Own r.heap.size 3 w' E ([7]:List Int))/\Stp r w':=by
  have:=zDP (x:=x1) (im:=im0) (l:=ev0) (w:=r) (by decide) (y.up (w':=r)) (ev0_m _) ev0_f;rw [err0,took0] at this;exact this
 refine rcall T ?_;rintro _ z ⟨⟨E,rfl,U⟩,e5⟩;refine rldG (B:=p) rfl rfl ?_
 have V:Sp PP 26 #[agg x1,txt [],.slice (some ⟨C,0,none⟩) 5 5] z λv w'=>(∃c d,v=.tuple #[c,d,.int .i64 30])/\Stp z w':=by
  have:=zC2 (x:=x1) (im:=[]) (l:=ev0) (w:=z) (by decide) (y.up (w':=z)) (ev0_m _) ev0_f;rw [errE] at this;exact this.mono λv w' ⟨⟨c,d,h,_⟩,e⟩=>⟨⟨c,d,h⟩,e⟩
 refine rcall V ?_;rintro _ W ⟨⟨X,Y,rfl⟩,e6⟩;refine iT rfl (rbs (vs:=[txt [8,252,1],txt [7,0,1,1,0]]) [bsOf [8,252,1],bsOf [7,0,1,1,0]] rfl rfl rfl (by decide) λb7 J Z S7=>?_);have s7:Stp W J:=⟨Z.ext⟩;have K:=R.up (w':=J);have f:=K.shape;obtain⟨a7,c7,rfl⟩:=f;refine rcall ((zDc K.sl S7 (by simp)).tt rfl) ?_;rintro _ w8 ⟨rfl,e8⟩;refine bS (0:Int) λb9 w9 e9 _ S9=>?_;have L:=S.up (w':=w9);have f:=L.shape;obtain⟨a9,c9,rfl⟩:=f;refine rcall ((zBI L.sl S9 (by simp)).tt rfl) ?_;rintro _ a0 ⟨rfl,a1⟩;refine iT rfl (bS (7:Int) λa4 F a5 _ G=>?_);have t:=U.up (w':=F);have f:=t.shape;obtain⟨a6,a8,rfl⟩:=f;refine rcall ((zBI t.sl G (by simp)).tt rfl) ?_;rintro _ H ⟨rfl,b0⟩;refine iT rfl (rcall (zET (y.up (w':=H)) (by decide)) ?_);rintro b1 b2 ⟨I,b3⟩;have f:=I.shape;obtain⟨b4,b5,rfl⟩:=f;refine iT (by simp [zEh,ev0]) ?_;exact⟨rfl,stp⟩
theorem zOD{x:RCfg}{im:List UInt8}(l:List EvD):(toldA x im l).length<=64000/\(tookA x im l).length<=1000/\(liveA x im l).length<=16:=by
 unfold toldA tookA liveA;by_cases h:errA x im l.length=0
 ·rw [if_pos h,if_pos h,if_pos h];have c:=zCp.1 h;obtain⟨f,d⟩:=c;have c:=zDo.1 d;obtain⟨e,g,hi⟩:=c;have b:CfOk (cfOf x):=zDQ e;have:=zFW (g:=graA im) b l;have o:=b.workers;refine⟨by omega,by omega,?_⟩;rw [Qr,Vm];omega
 ·rw [if_neg h,if_neg h,if_neg h];simp
theorem zMc{c p:Nat}{l:List REv}{w:World}(h:SlF w (.slice a n c) (calmL l))(f:SlF w (.slice a2 n2 p) (calmL l))(I:l.length<=1000000):
  Sp PP 31 #[.slice a n c,.slice a2 n2 p] w λv w'=>v=.bool true/\Stp w w':=by
 have o:=h.len;obtain rfl:=o;have o:=f.len;obtain rfl:=o;have r:=zEh l;refine eN ?_;refine iF (· rfl) (cN 6 [4] 5 l.length (λk u=>Stp w u) stp ?_);rintro k G u J t;refine ite (λhlt=>?_) (λx=>?_)
 ·have d:k<l.length:=by omega
  have hi:(calmL l)[k]? = some ⟨l[k].tick,l[k].frame,none,0,0⟩:=by simp [calmL,d]
  refine dQ 38 λb K=>tix (h.up (w':=b)) hi λL M y _=>tload1 (y.cell 0 rfl) nf (tix (f.up (w':=b)) hi λO Q z _=>tload1 (z.cell 0 rfl) nf (tbne (λh=>absurd rfl h) (λ_=>?_)));refine tix (h.up (w':=b)) hi λR S A _=>tload1 (A.cell 1 rfl) nf (tix (f.up (w':=b)) hi λT U C _=>tload1 (C.cell 1 rfl) nf (tsne (λh=>absurd rfl h) (λ_=>?_)));refine tix (h.up (w':=b)) hi λV W E _=>tload1 (E.cell 2 rfl) nf (tix (f.up (w':=b)) hi λX Y F _=>tload1 (F.cell 2 rfl) nf (rcall ((zBI (la:=[]) (lb:=[]) (SlF.nil b) (SlF.nil b) (by simp)).tt rfl) ?_));rintro _ Z ⟨rfl,H⟩;refine⟨H.e,?_⟩;exact rA ⟨rfl,d,stp⟩
 ·exact⟨rfl,t⟩
theorem zAt{A:Nat}{w:World}(l:s.length<=4611686018427387904):Sp PP 98 #[txt s,.int .i64 (A:Int)] w λv w' =>
  ((∃n d:Nat,RdsV rdN s A n d/\v=.tuple #[.int .i64 (n:Int),.int .i64 (d:Int),.bool true])\/(rdN (s.drop A)=none/\v=.tuple #[.int .i64 0,.int .i64 0,.bool false]))/\Stp w w':=
 (zCK l).mono λv w' ⟨h,f⟩=>⟨by
  rcases h with ⟨o,n,e,b,c⟩|⟨b,c⟩
  ·have p:o=A:=by omega
   obtain rfl:=p;exact .inl ⟨n,_,rdn_of b,c⟩
  ·exact .inr ⟨rdn_no λn=>b A n rfl,c⟩,f⟩
theorem zDB{A:Nat}{w:World}(h:s.length<=4611686018427387904):Sp PP 168 #[txt s,.int .i64 (A:Int)] w λv w' =>
  ((∃x f,RdsV rdT s A x f/\v=.tuple #[txt x,.int .i64 ((f:Nat):Int),.bool true])\/(rdT (s.drop A)=none/\v=.tuple #[txt [],.int .i64 0,.bool false]))/\Stp w w':=by
 refine eN ?_;refine rcall (zAt h) ?_;rintro v w1 ⟨⟨n,b,c,rfl⟩|⟨d,rfl⟩,r⟩
 case' inr=>exact⟨.inr ⟨zK4 d,rfl⟩,stp⟩
 have t:=rdN_le c.2;have e:=zK5 c.2;have l:=c.1;have C:=zAd s;refine ite (λo=>⟨.inr ⟨by rw [e,if_neg (by omega)],rfl⟩,stp⟩) (λo=>?_);refine rA (ite (λp=>⟨.inr ⟨by rw [e,if_neg (by rw [QR];omega)],rfl⟩,stp⟩) (λp=>?_));refine rarE (y:=((b+n:Nat):Int)) (by omega) (by omega) (rssl rfl rfl (by omega) (by omega) ?_);refine rarE (y:=((b+n:Nat):Int)) (by omega) (by omega) ?_;refine⟨.inl ⟨(s.drop b).take n,b+n,⟨by omega,?_⟩,?_⟩,stp⟩
 ·rw [e,if_pos ⟨by omega,by rw [QR];omega⟩,VZ]
 ·exact congrArg (λz:ByteArray=>Value.tuple #[.string z,.int .i64 ((b+n:Nat):Int),.bool true]) ((zBa s b (b+n)).trans (by rw [show b+n - b=n by omega]))
theorem zFz{A:Nat}{w:World}(y:s.length<=4611686018427387904):Sp PP 167 #[txt s,.int .i64 (A:Int)] w (RowV s A w):=by
 refine eN ?_;refine rcall (zAt y) ?_;rintro v w1 ⟨⟨n,z,o,rfl⟩|⟨c,rfl⟩,R⟩
 case' inr=>exact⟨.inr ⟨zEA c,rfl⟩,stp⟩
 have S:=rdN_le o.2;have l:=zH2 o.2;have p:=o.1;refine ite (λC=>⟨.inr ⟨by rw [l,if_neg (by omega)],rfl⟩,stp⟩) (λC=>?_);rw [if_pos (by omega)] at l
 refine cP 12 [4,5,6] 8 10 11 n (λk E F u=>∃b d,b.length=k/\d<=s.length/\E=.int .i64 ((d:Nat):Int)/\Own w.heap.size 3 u F (intsN b)/\preR b (rdMany rdN (n - k) (s.drop d))=rdMany rdN n (s.drop z)/\Stp w u)
  ⟨[],z,rfl,p,rfl,Own.nil _ _ _,by rw [zBP,JF],stp⟩ ?_
 rintro k _ v g u T ⟨b,d,G,r,rfl,O,t,e⟩;refine ite (λh=>?_) (λh=>?_)
 ·refine rcall (zAt y) ?_;rintro _ U ⟨⟨m,H,f,rfl⟩|⟨c,rfl⟩,V⟩
  case' inr =>
   refine⟨.inr ⟨?_,rfl⟩,stp⟩;rw [l,<-t,show n - k=(n - (k+1))+1 by omega,zA7 c];rfl
  refine bS (m:Int) λW I X _ J=>rapp1 (u:=w) ⟨rfl,rfl⟩ (O.up (w':=I)) J (by simp [intsN];omega) λK L M Y Z=>?_;have x:Own w.heap.size 3 L K (intsN (b++[m])):=by rw [show intsN (b++[m])=intsN b++[(m:Int)] by simp [intsN]];exact M
  refine rA ⟨rfl,by omega,b++[m],H,by simp [G],f.1,rfl,x,?_,stp⟩;rw [<-t,show n - k=(n - (k+1))+1 by omega,zAF f.2]
 ·have Q:k=n:=by omega
  obtain rfl:=Q;refine⟨.inl ⟨b,d,v,⟨r,?_⟩,rfl,O⟩,stp⟩;rw [l,<-t,JN];simp [rdMany,preR]
def textB (s:ByteArray):List UInt8:=numB s.size++s.data.toList
def rowB (l:List Nat):List UInt8:=numB l.length++l.flatMap numB
theorem zJx{s:ByteArray}(h:s.size<=4000):(textB s).length<=4005:=by
 have b:s.data.toList.length=s.size:=Vc;have:=zAm (n:=s.size) (by omega);unfold textB;rw [Qb];omega
theorem zBt{w:World}(h:n<=2147483647):Sp PP 166 #[.int .i64 (n:Int)] w λv w'=>v=.tuple #[txt (numB n),.int .i64 0]/\Stp w w':=
 zBK.mono λ_ _ b=>⟨by rw [b.1];unfold numV;rw [if_pos (by omega)];rfl,b.2⟩
theorem zGA{s:ByteArray}{w:World}(c:s.size<=4000):Sp PP 171 #[.string s] w λv w'=>v=.tuple #[txt (textB s),.int .i64 0]/\Stp w w':=by
 have d:s.data.toList.length=s.size:=Vc;have e:=zAm (n:=s.size) (by omega);refine eN ?_;refine iF (by omega) (rcall (zBt (n:=s.size) (by omega)) ?_);rintro _ w1 ⟨rfl,f⟩;refine rsadd (by rw [zAd];omega) ?_
 have b:(⟨(numB s.size).toArray⟩:ByteArray)++s=⟨(textB s).toArray⟩:=by
  have:=zAD (numB s.size) s.data.toList;rw [Jz] at this;exact this
 exact⟨congrArg (λz:ByteArray=>Value.tuple #[.string z,.int .i64 0]) b,stp⟩
theorem zOv{l:List Nat}(h:k<l.length):(l.take (k+1)).flatMap numB=(l.take k).flatMap numB++numB l[k]:=by rw [take_add h,Jl];simp
theorem zI2{l:List Nat}(h:∀n∈l,n<=2147483647):(l.flatMap numB).length<=5*l.length:=by
 induction l with
 |nil=>simp
 |cons n r b =>
  rw [JV,Qb,QA];have:=zAm (h n (by simp));have:=b λm c=>h m (by simp [c]);omega
theorem zIv{c:Nat}{l:List Nat}{w:World}(h:SlF w (.slice a n c) (intsN l))(E:l.length<=4000)(r:∀x∈l,x<=2147483647):Sp PP 169 #[.slice a n c] w λv w'=>v=.tuple #[txt (rowB l),.int .i64 0]/\Stp w w':=by
 have f:(intsN l).length=l.length:=by simp [intsN]
 have o:=h.len;obtain rfl:=o;rw [f] at h ⊢;have F:=zAm (n:=l.length) (by omega);refine eN ?_;refine iF (by omega) (rcall (zBt (n:=l.length) (by omega)) ?_);rintro _ w1 ⟨rfl,G⟩;refine cO 7 [2,3] 4 6 l.length (λk v u=>v=txt (numB l.length++(l.take k).flatMap numB)/\Stp w u) ⟨(congrArg txt (QE (numB l.length))).symm,stp⟩ ?_;rintro k _ g u H ⟨rfl,e⟩;refine ite (λhlt=>?_) (λt=>?_)
 ·have b:k<l.length:=by omega
  have d:=r l[k] (Qa _);have y:=zI2 (l:=l.take k) λx d=>r x (Vu d);rw [Qm] at y;have A:=zAm d;refine rix (h.up (w':=u)) (x:=(l[k]:Int)) (by simp [intsN,b]) λI J C=>rload1 (C.cell0 rfl) (rcall (zBt d) ?_);rintro _ K ⟨rfl,L⟩;refine iF (· rfl) (rsadd (by simp only [zAd,Qb];omega) ?_);have p:(⟨(numB l.length++(l.take k).flatMap numB).toArray⟩:ByteArray)++⟨(numB l[k]).toArray⟩=⟨(numB l.length++(l.take (k+1)).flatMap numB).toArray⟩:=by rw [zAD,zOv b,Qp]
  exact rA ⟨rfl,b,congrArg Value.string p,stp⟩
 ·have o:k=l.length:=by omega
  obtain rfl:=o;have p:numB l.length++(l.take l.length).flatMap numB=rowB l:=by rw [Qg];rfl
  exact⟨congrArg (λz=>Value.tuple #[txt z,.int .i64 0]) p,stp⟩
theorem zIW:∀a b:List UInt8,Op.bytesLess a b=true↔a<b
 |[],[]=>by simp [Op.bytesLess]
 |[],_::_=>by simp [Op.bytesLess]
 |_::_,[]=>by simp [Op.bytesLess]
 |a::xs,b::ys=>by
  have d:=zIW xs ys;unfold Op.bytesLess;rw [List.cons_lt_cons_iff];by_cases h:a<b
  ·simp [h]
  ·by_cases c:a=b
   ·simp [c,d]
   ·simp [h,c]
theorem zMw{a b:ByteArray}:Op.bytesLess a.toList b.toList=true↔ltW a b:=by
 rw [Xs,Xs];exact zIW _ _
section
variable {P:Program} {k:Value->World->Prop} {pn:List PanicEntry->World->Prop} {w:World} {t:TypeId} {x y:Operand} {a b:ByteArray}
theorem zMi(w:World):(do eqGuard .lss t x y (.string a) (.string b);binOp .lss t (.string a) (.string b):Sem Value).run P w=.ok (.bool (Op.bytesLess a.toList b.toList)) w:=by
 rw [Qo,zBF];simp [binOp_string_lss]
theorem zMh(w:World):(do eqGuard .geq t x y (.string a) (.string b);binOp .geq t (.string a) (.string b):Sem Value).run P w=.ok (.bool (!(Op.bytesLess a.toList b.toList))) w:=by
 rw [Qo,zBF];simp [binOp,Op.stringOp]
theorem tslt{k:Value->Prop}(c:ltW a b->k (.bool true))(d:¬ltW a b->k (.bool false)):TakeS P (do eqGuard .lss t x y (.string a) (.string b);binOp .lss t (.string a) (.string b)) D k w:=
 zDh _ (λw'=>zMi w') zMw c d
theorem tsge{k:Value->Prop}(c:¬ltW a b->k (.bool true))(d:ltW a b->k (.bool false)):TakeS P (do eqGuard .geq t x y (.string a) (.string b);binOp .geq t (.string a) (.string b)) D k w:=
 zDh _ (λw'=>zMh w') (zFX zMw) c λh=>d (Q2.1 h)
end
theorem zGB{s:ByteArray}{w:World}(A:s.size<=1000000):Sp PP 134 #[.string s] w λv w'=>Tells (WordB s) v/\Stp w w':=by
 have C:s.data.toList.length=s.size:=Vc;refine eN ?_;refine cN 4 [2] 3 s.size (λk u=>(∀c∈s.data.toList.take k,97<=c.toNat/\c.toNat<=122)/\Stp w u) ⟨by simp,stp⟩ ?_;rintro k g u E ⟨b,e⟩;refine ite (λhlt=>?_) (λy=>?_)
 ·have d:k<s.data.toList.length:=by omega
  have x:¬(97<=s.data.toList[k].toNat/\s.data.toList[k].toNat<=122)->¬WordB s:=λh z=>h (z.1 _ (Qa _));refine rsidx (c:=s.data.toList[k]) (Qd d) (ite (λo=>⟨.f (x (by omega)),stp⟩) (λo=>?_));refine rsidx (c:=s.data.toList[k]) (Qd d) (ite (λp=>⟨.f (x (by omega)),stp⟩) (λp=>?_));refine rA ⟨rfl,by omega,λt l=>?_,stp⟩;rw [take_add d] at l;have r:=Qf.1 l;rcases r with l|l
  ·exact b t l
  ·rw [Qc.1 l];omega
 ·have r:k=s.size:=by omega
  obtain rfl:=r;rw [Qj (by omega)] at b;refine ite (λo=>?_) (λo=>⟨.f (λh=>o (by have:=h.2.1;omega)),stp⟩);exact ite (λp=>⟨.t ⟨b,by omega,by omega⟩,stp⟩) (λp=>⟨.f (λh=>p (by have:=h.2.2;omega)),stp⟩)
theorem zLQ{a b:EdN}{w:World}:Sp PP 173 #[agg a,agg b] w λv w'=>Tells (ltE a b) v/\Stp w w':=by
 refine eN ?_;refine rbx λp w1 n1 c=>rbx λr x n2 d=>rX c rfl (rX d rfl ?_);refine ite (λe=>⟨.t (.inl (by omega)),stp⟩) (λe=>?_);refine rX c rfl (rX d rfl ?_);refine ite (λl=>?_) (λl=>⟨.f (λh=>by unfold ltE at h;omega),stp⟩);refine rX c rfl (rX d rfl ?_);exact ite (λo=>⟨.t (.inr ⟨by omega,by omega⟩),stp⟩) (λo=>⟨.f (λh=>by unfold ltE at h;omega),stp⟩)
theorem zKO{x:RGr}{vs:List SV}{w:World}(V:GrV w x g vs):Sp PP 172 #[agg x] w λv w'=>Tells (GrChk g) v/\Stp w w':=by
 have hn:=V.n;have W:=V.es.len;have X:=V.ws.len;have Y:=V.rows.1;have o:=V.small;obtain⟨Z,a0,H⟩:=o;refine eN ?_;refine rbx λb w1 n1 p=>rX p rfl (ite (λh1=>⟨.f (λh=>by have:=h.n1;omega),stp⟩) (λh1=>?_));refine rX p rfl (ite (λh2=>⟨.f (λh=>by have:=h.n2;omega),stp⟩) (λh2=>?_));refine rX p rfl (ite (λh3=>⟨.f (λh=>by have:=h.ne;omega),stp⟩) (λh3=>?_));refine rX p rfl (rX p rfl ?_);refine ite (λh4=>⟨.f (λh=>by have:=h.nw;omega),stp⟩) (λh4=>?_);refine cN 4 [2] 3 g.es.length (λk u=>(∀e∈g.es.take k,e.f<g.n/\e.t<g.n)/\Stp w1 u) ⟨by simp,stp⟩ ?_;rintro k gf u hk ⟨r,e⟩;refine rX p rfl (ite (λhlt=>?_) (λI=>?_))
 ·have y:k<g.es.length:=by omega
  have G:¬(g.es[k].f<g.n/\g.es[k].t<g.n)->¬GrChk g:=λh J=>h (J.ed _ (Qa _));refine rX p rfl (rix (V.es.up (w':=u)) (x:=g.es[k]) (by simp) λK L A=>rloadA A rfl (ral λT w3 n3 z3=>rE z3 (g.es[k]) λU E f4 _=>?_));have s4:Stp u U:=n3.st f4;have E:Bk U T (enc g.es[k]) 159:=E;refine rX E rfl (iF (by omega) (rX E rfl (rX p rfl ?_)));refine ite (λM=>⟨.f (G (by omega)),stp⟩) (λM=>?_);refine rX E rfl (iF (by omega) (rX E rfl (rX p rfl ?_)));refine ite (λO=>⟨.f (G (by omega)),stp⟩) (λO=>?_);refine rA ⟨rfl,y,λt c=>?_,stp⟩;rw [take_add y] at c;have o:=Qf.1 c;rcases o with c|c
  ·exact r t c
  ·rw [Qc.1 c];omega
 have o:k=g.es.length:=by omega
 obtain rfl:=o;rw [Qg] at r;refine cN 6 [2] 5 g.n (λk u'=>(∀l∈g.ws.take k,l.length<=8/\∀s∈l,WordB s)/\Stp u u') ⟨by simp,stp⟩ ?_;rintro k gf u' hk ⟨d,e'⟩;refine rX p rfl (ite (λhlt=>?_) (λI=>?_))
 ·have y:k<vs.length:=by omega
  have z:k<g.ws.length:=by omega
  have G:¬(g.ws[k].length<=8/\∀s∈g.ws[k],WordB s)->¬GrChk g:=λh J=>h (J.word _ (Qa _));have R:=V.rows.2 k y z;have hl:=R.len;have a1:=H _ (Qa z);refine cnt TBok 7 [2] 6 g.ws[k].length (λj F=>(∀s∈g.ws[k].take j,WordB s)/\Stp u' F) rfl rfl ⟨by simp,stp⟩ ?_;rintro j a4 F hj ⟨Q,e2⟩;refine rX p rfl (rix (V.ws.up (w':=F)) (x:=vs[k]) (by simp) λK L A=>rload1 (A.cell0 rfl) (ite (λa5=>?_) (λhgj=>?_)))
  ·have C:j<g.ws[k].length:=by omega
   refine rX p rfl (rix (V.ws.up (w':=F)) (x:=vs[k]) (by simp) λK L A=>rload1 (A.cell0 rfl) (rix (R.up (w':=F)) (x:=g.ws[k][j]) (by simp) λT o3 A3=>rload1 (A3.cell0 rfl) (rcall (zGB (V.words _ (Qa z) _ (Qa C))) ?_)));rintro _ u3 ⟨⟨rfl,S⟩|⟨rfl,S⟩,e3⟩
   case' inr=>exact⟨.f (G λh=>S (h.2 _ (Qa _))),stp⟩
   refine rA ⟨rfl,C,λt c=>?_,stp⟩;rw [take_add C] at c;have o:=Qf.1 c;rcases o with c|c
   ·exact Q t c
   ·rw [Qc.1 c];exact S
  ·have o:j=g.ws[k].length:=by omega
   obtain rfl:=o;rw [Qg] at Q;refine rX p rfl (rix (V.ws.up (w':=F)) (x:=vs[k]) (by simp) λK L A=>rload1 (A.cell0 rfl) (ite (λh7=>⟨.f (G (by omega)),stp⟩) (λh7=>?_)));refine rA ⟨rfl,by omega,λt c=>?_,stp⟩;rw [take_add z] at c;have o:=Qf.1 c;rcases o with c|c
   ·exact d t c
   ·rw [Qc.1 c];exact⟨by omega,Q⟩
 ·have o:k=g.n:=by omega
  obtain rfl:=o;rw [Qj (by omega)] at d;exact⟨.t ⟨by omega,by omega,by omega,by omega,r,d⟩,stp⟩
theorem zHL{α:Type}{lt:α->α->Prop}{l:List α}(h:∀i (h:i+1<l.length),i<k->lt l[i] l[i+1])(f:k+1<l.length)(d:lt l[k] l[k+1]):∀i (h:i+1<l.length),i<k+1->lt l[i] l[i+1]:=λi hi e=>by
 have b:=QH i k;rcases b with c|c
 ·exact h i hi c
 ·have b:i=k:=by omega
  obtain rfl:=b;exact d
theorem zFA{x:RGr}{vs:List SV}{w:World}(V:GrV w x g vs):Sp PP 101 #[agg x] w λv w'=>Tells (GrIs g) v/\Stp w w':=by
 have hn:=V.n;have a0:=V.es.len;have a1:=V.ws.len;have a4:=V.rows.1;have C:=V.small;obtain⟨a5,a6,K⟩:=C;refine eN ?_;refine rbx λb w1 n1 o=>rG o x (rcall (zKO (V.up (w':=w1))) ?_);rintro _ w2 ⟨⟨rfl,I⟩|⟨rfl,I⟩,S⟩
 case' inr=>exact⟨.f (λh=>I h.chk),stp⟩
 have a7:=I.nw
 refine loop1 TBok 4 [2] 3 (λv u=>∃k:Nat,v=.int .i64 ((k:Int)+1)/\(k=0\/k+1<=g.es.length)/\(∀i (h:i+1<g.es.length),i<k->ltE g.es[i] g.es[i+1])/\Stp w1 u) (λv _=>g.es.length+1 - (Go.RowKit.intOf v).toNat) rfl
  ⟨0,rfl,.inl rfl,λi _ hi=>by omega,stp⟩ ?_
 rintro v g' u ⟨k,rfl,hk,p,e⟩;refine rX o rfl (ite (λhlt=>?_) (λL=>?_))
 ·have E:k+1<g.es.length:=by omega
  refine dQ 13 λz S=>tX o rfl nf (rarE (y:=((k:Nat):Int)) (by omega) (by omega) (tix (V.es.up (w':=z)) (x:=g.es[k]) (by simp) λT U F _=>tloadA F rfl nf (tX o rfl nf (tix (i:=k+1) (V.es.up (w':=z)) (x:=g.es[k+1]) (by simp) λb4 o4 A4 _=>tloadA A4 rfl nf (rcall zLQ ?_)))));rintro _ u5 ⟨⟨rfl,r⟩|⟨rfl,r⟩,W⟩
  case' inr=>exact⟨W.e,⟨.f (λh=>r ((zAZ ltE_tr).2 h.er k E)),stp⟩⟩
  refine⟨W.e,?_⟩;refine rA ⟨⟨k+1,rfl,.inr (by omega),zHL p E r,stp⟩,?_⟩;show g.es.length+1 - (((k:Int)+1+1)).toNat<g.es.length+1 - (((k:Int)+1)).toNat;omega
 have M:=(zAZ ltE_tr).1 λi hi=>p i hi (by omega);refine cN 5 [2] 4 g.n (λk u'=>(∀l∈g.ws.take k,l.Pairwise ltW)/\Stp u u') ⟨by simp,stp⟩ ?_;rintro k gf u' hk ⟨c,e'⟩;refine rX o rfl (ite (λhlt=>?_) (λL=>?_))
 ·have O:k<vs.length:=by omega
  have d:k<g.ws.length:=by omega
  have R:=V.rows.2 k O d;have hl:=R.len;have a8:=K _ (Qa d)
  refine loop1 TBok 6 [2] 5 (λv z=>∃j:Nat,v=.int .i64 ((j:Int)+1)/\(j=0\/j+1<=g.ws[k].length)/\(∀i (h:i+1<g.ws[k].length),i<j->ltW g.ws[k][i] g.ws[k][i+1])/\Stp u' z) (λv _=>g.ws[k].length+1 - (Go.RowKit.intOf v).toNat) rfl
   ⟨0,rfl,.inl rfl,λi _ hi=>by omega,stp⟩ ?_
  rintro v g' z ⟨j,rfl,hj,X,S⟩;refine rX o rfl (rix (V.ws.up (w':=z)) (x:=vs[k]) (by simp) λY Z G=>rload1 (G.cell0 rfl) (ite (λa9=>?_) (λhgj=>?_)))
  ·have H:j+1<g.ws[k].length:=by omega
   refine dQ 18 λJ e3=>tX o rfl nf (tix (V.ws.up (w':=J)) (x:=vs[k]) (by simp) λY Z G _=>tload1 (G.cell0 rfl) nf (rarE (y:=((j:Nat):Int)) (by omega) (by omega) (tix (R.up (w':=J)) (x:=g.ws[k][j]) (by simp) λT U F _=>tload1 (F.cell0 rfl) nf (tX o rfl nf (tix (V.ws.up (w':=J)) (x:=vs[k]) (by simp) λY Z G _=>tload1 (G.cell0 rfl) nf (tix (i:=j+1) (R.up (w':=J)) (x:=g.ws[k][j+1]) (by simp) λT U F _=>tload1 (F.cell0 rfl) nf (tsge (λr=>?_) (λr=>?_))))))))
   ·exact⟨.f (λh=>r ((zAZ ltW_tr).2 (h.wr _ (Qa d)) j H)),stp⟩
   ·refine rA ⟨⟨j+1,rfl,.inr (by omega),zHL X H r,stp⟩,?_⟩;show g.ws[k].length+1 - (((j:Int)+1+1)).toNat<g.ws[k].length+1 - (((j:Int)+1)).toNat;omega
  ·have Q:=(zAZ ltW_tr).1 λi hi=>X i hi (by omega);refine rA ⟨rfl,by omega,λt A=>?_,stp⟩;rw [take_add d] at A;have C:=Qf.1 A;rcases C with A|A
   ·exact c t A
   ·rw [Qc.1 A];exact Q
 ·have C:k=g.n:=by omega
  obtain rfl:=C;rw [Qj (by omega)] at c;exact⟨.t (zJZ.2 ⟨I,M,c⟩),stp⟩
def plB (p:List Nat×List (List UInt8)):List UInt8:=rowB p.1++(numB p.2.length++p.2.flatMap λx=>numB x.length++x)
def wdsB (l:List ByteArray):List UInt8:=numB l.length++l.flatMap textB
def plG (g:GrD) (v:Nat):List UInt8:=rowB (nbL g 0 v)++wdsB (g.ws.getD v [])
def imK (g:GrD) (k:Nat):List UInt8:=[119,103]++numB g.n++(List.range k).flatMap (plG g)
theorem zB1{α:Type}{f:List UInt8->Option (α×List UInt8)}{B:α->List UInt8}(h:∀r x t,f r=some (x,t)->r=B x++t):∀(n:Nat) (r:List UInt8) (l:List α) (t:List UInt8),rdMany f n r=some (l,t)->r=l.flatMap B++t/\l.length=n
 |0,r,l,t,e=>by
  simp only [rdMany,JK,Xm] at e;obtain⟨rfl,rfl⟩:=e;simp
 |n+1,r,l,t,e=>by
  simp only [rdMany] at e;split at e
  ·cases e
  ·rename_i x v b;split at e
   ·cases e
   ·rename_i l' u c;cases e;have d:=zB1 h n _ _ _ c;obtain⟨o,p⟩:=d;refine⟨?_,by simp [p]⟩;rw [h _ _ _ b,o,JV,Qp]
theorem zMd{r t:List UInt8}{l:List Nat}(h:rdRow r=some (l,t)):r=rowB l++t:=by
 unfold rdRow at h;split at h
 ·rename_i n o b;split at h
  ·have c:=zB1 (B:=numB) (λr x t e=>(zAv.1 e).2) _ _ _ _ h;obtain⟨d,f⟩:=c;rw [(zAv.1 b).2,d];unfold rowB;rw [f,Qp]
  ·cases h
 ·cases h
theorem zFH{r t x:List UInt8}(h:rdT r=some (x,t)):r=(numB x.length++x)++t:=by
 unfold rdT at h;split at h
 ·rename_i n d b;split at h
  ·rename_i c;cases h;rw [(zAv.1 b).2,Qm,VB c.2,Qp,JW]
  ·cases h
 ·cases h
theorem zNL{r t:List UInt8}{p:List Nat×List (List UInt8)}(h:rdPl r=some (p,t)):r=plB p++t:=by
 unfold rdPl at h;split at h
 ·rename_i l w c;split at h
  ·rename_i y u b;cases h;rw [zMd c];unfold rdWs at b;split at b
   ·rename_i n z d;split at b
    ·have f:=zB1 (B:=λx=>numB x.length++x) (λr x t e=>zFH e) _ _ _ _ b;obtain⟨o,v⟩:=f;rw [(zAv.1 d).2,o];unfold plB;rw [v];simp only [Qp]
    ·cases b
   ·cases b
  ·cases h
 ·cases h
theorem eds_at:∀(b:List (List Nat)) (k v:Nat),((edsOf k b).filter λe=>e.f==v).map (·.t)=if v<k then [] else b.getD (v - k) []
 |[],k,v=>by simp [edsOf]
 |l::b,k,v=>by
  rw [edsOf,QV,QB,eds_at b (k+1) v]
  have d:((l.map λt=>(⟨k,t⟩:EdN)).filter λe=>e.f==v).map (·.t)=if k=v then l else []:=by
   by_cases h:k=v
   ·rw [if_pos h,JH.2 (by intro e c;obtain⟨t,_,rfl⟩:=Qq.1 c;simpa using h),VM];exact List.map_id l
   ·rw [if_neg h,JA.2 (by intro e c;obtain⟨t,_,rfl⟩:=Qq.1 c;simpa using h)];rfl
  rw [d];have o:=VG v k;rcases o with h|h|h
  ·rw [if_neg (by omega),if_pos (by omega),if_pos h];rfl
  ·rw [if_pos h.symm,if_pos (by omega),if_neg (by omega),h,JN];simp
  ·rw [if_neg (by omega),if_neg (by omega),if_neg (by omega),show v - k=(v - (k+1))+1 by omega];simp
theorem zNo{α b:Type}(f:α->List b)(d:α)(l:List α):(List.range l.length).flatMap (λv=>f (l.getD v d))=l.flatMap f:=by
 have:(List.range l.length).map (λv=>l.getD v d)=l:=by
  apply Xg
  ·simp
  ·intro i e c;simp [c]
 conv=>rhs;rw [<-this]
 rw [XJ]
theorem imK_of{ps:List (List Nat×List (List UInt8))}(h:ps.length=n):imK (grOf n ps) n=[119,103]++numB n++ps.flatMap plB:=by
 unfold imK;rw [<-zNo plB ([],[]) ps,h];congr 1;rw [List.flatMap_def,List.flatMap_def];congr 1;apply Ja;intro v b;have b:=Q0.1 b;have c:ps[v]?.getD ([],[])=ps[v]:=by rw [Qd (by omega)];rfl
 have d:nbL (grOf n ps) 0 v=ps[v].1:=by
  have:=eds_at (ps.map (·.1)) 0 v;unfold nbL;rw [if_neg (by decide)];show ((edsOf 0 (ps.map (·.1))).filter λe=>e.f==v).map (·.t)=_;rw [this,if_neg (by omega),JF,Qk,QK,Qd (by omega)];rfl
 have l:(grOf n ps).ws.getD v []=ps[v].2.map bsOf:=by
  show (ps.map λp=>p.2.map bsOf).getD v []=_;rw [Qk,QK,Qd (by omega)];rfl
 rw [Qk,c];unfold plG plB wdsB;rw [d,l,Qr,XJ];rfl
theorem zDp{α b:Type}{f:α->List b}{l:List α}(h:∀x∈l,(f x).length<=m):(l.flatMap f).length<=l.length*m:=by
 induction l with
 |nil=>simp
 |cons x r c =>
  rw [JV,Qb,QA,Jo];have:=h x (by simp);have:=c λy d=>h y (by simp [d]);omega
section
variable {g:GrD}
theorem zK8(hg:GrIs g)(v:Nat):(rowB (nbL g 0 v)).length<=10005:=by
 have c:=zCW hg 0 v;have d:=zAm (n:=(nbL g 0 v).length) (by omega);have e:=zI2 (l:=nbL g 0 v) λx b=>by have:=nb_lt hg.ok b;have:=hg.ok.n2;omega
 unfold rowB;rw [Qb];omega
theorem ws_is(hg:GrIs g){v:Nat}{s:ByteArray}(h:s∈(g.ws.getD v []).take j):s.size<=12:=by
 have h:=Vu h;rw [Qk] at h;have c:=QH v g.ws.length;rcases c with b|b
 ·rw [Qd b] at h;exact((hg.word _ (Qa b)).2 s h).2.2
 ·rw [Jg b] at h;cases h
theorem zLu(hg:GrIs g)(v j:Nat)(c:j<=8):(((g.ws.getD v []).take j).flatMap textB).length<=200:=by
 have h:=zDp (f:=textB) (m:=17) (l:=(g.ws.getD v []).take j) λs b=>by
  have d:=ws_is hg b;have e:s.data.toList.length=s.size:=Vc;have:=zAm (n:=s.size) (by omega);unfold textB;rw [Qb];omega
 have:((g.ws.getD v []).take j).length<=8:=by rw [Qm];omega
 have:=Ji 17 this;omega
theorem ws_len(hg:GrIs g)(v:Nat):(g.ws.getD v []).length<=8:=by
 rw [Qk];have c:=QH v g.ws.length;rcases c with b|b
 ·rw [Qd b];exact(hg.word _ (Qa b)).1
 ·rw [Jg b];simp
theorem zQa(hg:GrIs g)(d:k<=g.n):(imK g k).length<=3000000:=by
 have h:=zDp (f:=plG g) (m:=10300) (l:=List.range k) λv _=>by
  have e:=zK8 hg v;have b:=ws_len hg v;have c:=zLu hg v 8 (by omega);have o:=zAm (n:=(g.ws.getD v []).length) (by omega);rw [Qj b] at c;unfold plG wdsB;rw [Qb,Qb];omega
 rw [Vm] at h;have:=hg.ok.n2;have:=zAm (n:=g.n) (by omega);have p:k*10300<=200*10300:=Ji _ (by omega);unfold imK;rw [Qb,Qb];simp only [QA,QZ];omega
end
def rowK (g:GrD) (v k:Nat):List Nat:=((g.es.take k).filter λe=>e.f==v).map (·.t)
theorem zPt(g:GrD)(v k:Nat)(h:k<=g.es.length):(rowK g v k).length<=k:=by
 have:=Qv (λe=>e.f==v) (g.es.take k);unfold rowK;rw [Qr];rw [Qm] at this;omega
theorem zOw{v:Nat}(h:k<g.es.length):rowK g v (k+1)=if g.es[k].f=v then rowK g v k++[g.es[k].t] else rowK g v k:=by
 unfold rowK;rw [take_add h,QV,QB];by_cases e:g.es[k].f=v
 ·rw [if_pos e];simp [e]
 ·rw [if_neg e];simp [e]
theorem zPs(g:GrD)(v:Nat):rowK g v g.es.length=nbL g 0 v:=by
 unfold rowK nbL;rw [Qg,if_neg (by decide)]
theorem zOl{x:RGr}{vs:List SV}{v:Nat}{w:World}(V:GrV w x g vs):Sp PP 170 #[agg x,.int .i64 (v:Int)] w λr w'=>Own w.heap.size 3 w' r (intsN (nbL g 0 v))/\Stp w w':=by
 have h:=V.es.len;have l:=V.small.1;refine eN ?_;refine rbx λb w1 n1 f=>cO 7 [] 5 6 g.es.length (λk r u=>Own w1.heap.size 3 u r (intsN (rowK g v k))/\Stp w1 u) ⟨Own.nil _ _ _,stp⟩ ?_;rintro k r gf u K ⟨O,e⟩;refine rX f rfl (ite (λhlt=>?_) (λo=>?_))
 ·have d:k<g.es.length:=by omega
  have c:=zOw (v:=v) d;have p:=zPt g v k (by omega);refine rX f rfl (rix (V.es.up (w':=u)) (x:=g.es[k]) (by simp) λL M y=>rload1 (y.cell 0 rfl) (ite (λQ=>?_) (λz=>?_)))
  ·rw [if_pos (by omega)] at c;refine rX f rfl (rix (V.es.up (w':=u)) (x:=g.es[k]) (by simp) λR S A=>rload1 (A.cell 1 rfl) (bS (g.es[k].t:Int) λT C U _ E=>rapp1 (u:=w1) ⟨rfl,rfl⟩ (O.up (w':=C)) E (by simp [intsN];omega) λF G H W X=>?_));have I:Own w1.heap.size 3 G F (intsN (rowK g v (k+1))):=by rw [c,show intsN (rowK g v k++[g.es[k].t])=intsN (rowK g v k)++[(g.es[k].t:Int)] by simp [intsN]];exact H
   exact rA ⟨rfl,d,I,stp⟩
  ·rw [if_neg (by omega)] at c;exact rA ⟨rfl,d,by rw [c];exact O,stp⟩
 ·have J:k=g.es.length:=by omega
  obtain rfl:=J;rw [zPs] at O;exact⟨O.older,stp⟩
theorem zO5(g:GrD)(k:Nat):imK g (k+1)=imK g k++plG g k:=by
 unfold imK;rw [Jm,Jl];simp
theorem zKR{x:RGr}{vs:List SV}{w:World}(V:GrV w x g vs):Sp PP 100 #[agg x] w λv w'=>((GrIs g/\v=.tuple #[txt (imK g g.n),.int .i64 0])\/(¬GrIs g/\v=.tuple #[txt [],.int .i64 20]))/\Stp w w':=by
 have I:=V.n;have T:=V.rows.1;refine eN ?_;refine rbx λb w1 n1 f=>rG f x (rcall (zFA (V.up (w':=w1))) ?_);rintro _ w2 ⟨⟨rfl,c⟩|⟨rfl,c⟩,e2⟩
 case' inr=>exact⟨.inr ⟨c,rfl⟩,stp⟩
 have U:=c.ok.n2;have W:=c.nw;have hb:=zAm (n:=g.n) (by omega);refine rld (B:=f) (v:=.int .i64 (g.n:Int)) (by rw [<-I];rfl) (rcall (zBt (n:=g.n) (by omega)) ?_);rintro _ w3 ⟨rfl,e3⟩;refine rsadd (a:=⟨#[119,103]⟩) (b:=⟨(numB g.n).toArray⟩) (by have:=zAd (numB g.n);show 2+(⟨(numB g.n).toArray⟩:ByteArray).size<=_;omega) ?_
 have A:(⟨#[119,103]⟩:ByteArray)++⟨(numB g.n).toArray⟩=⟨(imK g 0).toArray⟩:=by
  rw [show (⟨#[119,103]⟩:ByteArray)=⟨[119,103].toArray⟩ from rfl,zAD];simp [imK]
 refine cO 8 [] 6 7 g.n (λk r u=>r=txt (imK g k)/\Stp w1 u) ⟨congrArg Value.string A,stp⟩ ?_;rintro k _ gf u hk ⟨rfl,e⟩;refine rld (B:=f) (v:=.int .i64 (g.n:Int)) (by rw [<-I];rfl) (ite (λhlt=>?_) (λX=>?_))
 case' refine_2 =>
  have o:k=g.n:=by omega
  obtain rfl:=o;exact⟨.inl ⟨c,rfl⟩,stp⟩
 have C:k<vs.length:=by omega
 have d:k<g.ws.length:=by omega
 have R:=V.rows.2 k C d;have Y:=R.len;have p:g.ws.getD k []=g.ws[k]:=by rw [Qk,Qd d];rfl
 have h8:=(c.word _ (Qa d)).1;have Z:=zQa c (k:=k) (by omega);have J:=zK8 c k;refine rG f x (rcall (zOl (v:=k) (V.up (w':=u))) ?_);rintro _ u1 ⟨K,e1⟩;have o:=K.shape;obtain⟨ra,rc,rfl⟩:=o;refine rcall (zIv K.sl (by have:=zCW c 0 k;omega) (λy hy=>by have:=nb_lt c.ok hy;omega)) ?_;rintro _ u2 ⟨rfl,a0⟩;refine rX f rfl (rix (V.ws.up (w':=u2)) (x:=vs[k]) (by simp) λL M t=>rload1 (t.cell0 rfl) ?_);have a1:=zAm (n:=g.ws[k].length) (by omega);have hq:vs[k].n=g.ws[k].length:=Y;refine rcall ((zBt (n:=vs[k].n) (by omega)).mono λv w' h=>by rw [hq] at h;exact h) ?_;rintro _ u3 ⟨rfl,a4⟩;refine rsadd (by simp only [zAd];omega) ?_;refine rsadd (by rw [zAD];simp only [zAd,Qb];omega) ?_;have E:((⟨(imK g k).toArray⟩:ByteArray)++⟨(rowB (nbL g 0 k)).toArray⟩)++⟨(numB g.ws[k].length).toArray⟩=⟨(imK g k++rowB (nbL g 0 k)++numB g.ws[k].length++(g.ws[k].take 0).flatMap textB).toArray⟩:=by rw [zAD,zAD];simp
 have z:=λj (O:j<=8)=>zLu c k j O;rw [p] at z;refine cnt1 TBok 13 [] 6 12 g.ws[k].length (λj r u'=>r=txt (imK g k++rowB (nbL g 0 k)++numB g.ws[k].length++(g.ws[k].take j).flatMap textB)/\Stp u3 u') rfl rfl ⟨congrArg Value.string E,stp⟩ ?_;rintro j _ a5 F O ⟨rfl,e4⟩;refine rX f rfl (rix (V.ws.up (w':=F)) (x:=vs[k]) (by simp) λL M t=>rload1 (t.cell0 rfl) (ite (λQ=>?_) (λS=>?_)))
 case' refine_2 =>
  have o:j=g.ws[k].length:=by omega
  obtain rfl:=o
  have G:imK g k++rowB (nbL g 0 k)++numB g.ws[k].length++(g.ws[k].take g.ws[k].length).flatMap textB=imK g (k+1):=by
   rw [zO5,Qg];unfold plG wdsB;rw [p];simp only [Qp]
  exact rA ⟨rfl,by omega,congrArg txt G,stp⟩
 have l:j<g.ws[k].length:=by omega
 refine rX f rfl (rix (V.ws.up (w':=F)) (x:=vs[k]) (by simp) λL M t=>rload1 (t.cell0 rfl) (rix (R.up (w':=F)) (x:=g.ws[k][j]) (by simp) λb3 o3 A3=>rload1 (A3.cell0 rfl) ?_));have a6:=((c.word _ (Qa d)).2 _ (Qa l)).2.2;have a7:=zJx (s:=g.ws[k][j]) (by omega);have a8:=z j (by omega);refine rcall (zGA (s:=g.ws[k][j]) (by omega)) ?_;rintro _ u5 ⟨rfl,e5⟩;refine rsadd (by simp only [zAd,Qb];omega) ?_
 have H:(⟨(imK g k++rowB (nbL g 0 k)++numB g.ws[k].length++(g.ws[k].take j).flatMap textB).toArray⟩:ByteArray)++⟨(textB g.ws[k][j]).toArray⟩=⟨(imK g k++rowB (nbL g 0 k)++numB g.ws[k].length++(g.ws[k].take (j+1)).flatMap textB).toArray⟩:=by
  rw [zAD,take_add l,Jl];simp
 exact rA ⟨rfl,l,congrArg Value.string H,stp⟩
def encQ (d:RqD):List UInt8:=if d.kind=4 then [] else if d.kind=3 then numB d.q.frm.toNat++(wdsB d.q.words++(numB d.q.rad.toNat++numB d.q.most.toNat)) else numB d.q.frm.toNat++numB d.q.to.toNat
def encRq (d:RqD):List UInt8:=numB d.id.toNat++(numB d.kind.toNat++encQ d)
theorem bsOf_data(s:ByteArray):bsOf s.data.toList=s:=by
 unfold bsOf;rw [Jz]
theorem zIz{s:ByteArray}(h:s.size<=4000)(t:List UInt8):rdT (textB s++t)=some (s.data.toList,t):=by
 have b:s.data.toList.length=s.size:=Vc;unfold textB rdT;rw [Qp,zA6 (by omega)];simp only;rw [if_pos ⟨h,by rw [Qb];omega⟩,<-b,V6,V0]
theorem zH1:∀(l:List ByteArray) (t:List UInt8),(∀s∈l,s.size<=4000)->rdMany rdT l.length (l.flatMap textB++t)=some (l.map λs=>s.data.toList,t)
 |[],t,_=>by simp [rdMany]
 |s::r,t,h=>by
  rw [JV,Qp,QA];simp only [rdMany];rw [zIz (h s (by simp))];simp only;rw [zH1 r t λy b=>h y (by simp [b])];rfl
theorem zPo{l:List ByteArray}(t:List UInt8)(b:l.length<=8)(h:∀s∈l,s.size<=4000):rdWs (wdsB l++t)=some (l.map λs=>s.data.toList,t):=by
 unfold wdsB rdWs;rw [Qp,zA6 (by omega)];simp only;rw [if_pos b,zH1 l t h]
theorem zNM{r t:List UInt8}{l:List (List UInt8)}(h:rdWs r=some (l,t)):r=wdsB (l.map bsOf)++t:=by
 unfold rdWs at h;split at h
 ·rename_i n o b;split at h
  ·have c:=zB1 (B:=λx=>numB x.length++x) (λr x t e=>zFH e) _ _ _ _ h;obtain⟨d,f⟩:=c;rw [(zAv.1 b).2,d];unfold wdsB;rw [Qr,f,XJ,Qp];rfl
  ·cases h
 ·cases h
theorem zQj{d:RqD}(h:reqOf s=some d):s=encRq d:=by
 have hd:=zCh h;unfold reqOf at h;split at h
 case h_2=>cases h
 rename_i x e;split at h
 case isFalse=>cases h
 cases h;unfold rdR at e;split at e
 ·cases e
 rename_i id J A;split at e
 ·cases e
 rename_i k K C;split at e
 case isFalse=>cases e
 have t:=(zAv.1 A).2;have v:=(zAv.1 C).2;split at e
 ·rename_i w;cases e;rw [t,v];subst w;simp [encRq,encQ]
 rename_i w;split at e
 ·cases e
 rename_i q L c;cases e;rw [t,v];have f:¬((k:Int)=4):=by omega
 unfold encRq encQ;simp only [QW];rw [if_neg f];congr 2;unfold rdQ at c;split at c
 ·cases c
 rename_i a M E;have z:=(zAv.1 E).2;split at c
 ·rename_i l;split at c
  ·cases c
  rename_i b F o;cases c;rw [if_neg (by omega),z,(zAv.1 o).2];simp
 ·rename_i l;split at c
  ·cases c
  rename_i O F o;split at c
  ·cases c
  rename_i x Q G;split at c
  ·cases c
  rename_i y R H;cases c
  have p:(k:Int)=3:=by
   have I:=hd.1;rcases I with r|⟨_,r,_⟩
   ·exact absurd r f
   ·simp only at r;omega
  rw [if_pos p,z,zNM o,(zAv.1 G).2,(zAv.1 H).2];simp
theorem req_of{d:RqD}(hd:RqIs d):reqOf (encRq d)=some d:=by
 have z:=hd;obtain⟨C,⟨E,F⟩,f⟩:=hd;obtain⟨id,kind,⟨r,t,qt,h,v,w⟩⟩:=d;dsimp only at C E F f;have c:∃i:Nat,id=(i:Int):=⟨id.toNat,by omega⟩;obtain⟨i,rfl⟩:=c
 have l:rdR (encRq ⟨(i:Int),kind,⟨r,t,qt,h,v,w⟩⟩)=some (⟨(i:Int),kind,⟨r,t,qt,h,v,w⟩⟩,[]):=by
  unfold encRq rdR;simp only [QW];rw [zA6 (by omega)];simp only;rcases C with rfl|⟨rfl,G,⟨H,I⟩,A,o⟩
  ·rw [if_pos rfl] at f;rw [show ((4:Int)).toNat=4 from rfl,zA6 (by omega)];simp only;rw [if_pos (by omega),if_pos (by trivial)];unfold encQ;rw [if_pos rfl,f]
  ·dsimp only at G H I A o;have c:∃a:Nat,t=(a:Int):=⟨t.toNat,by omega⟩;obtain⟨a,rfl⟩:=c;have c:∃k:Nat,r=(k:Int):=⟨r.toNat,by omega⟩;obtain⟨k,rfl⟩:=c;have p:¬((k:Int)=4):=by omega
   rw [if_neg p] at f;unfold encQ;simp only [QW];rw [if_neg p,zA6 (by omega)];simp only;rw [if_pos (by omega),if_neg (by omega)];by_cases e:(k:Int)=3
   ·rw [if_pos e] at f ⊢;have o:=o e;have c:∃x:Nat,v=(x:Int):=⟨v.toNat,by omega⟩;obtain⟨x,rfl⟩:=c;have c:∃y:Nat,w=(y:Int):=⟨w.toNat,by omega⟩;obtain⟨y,rfl⟩:=c;subst f;unfold rdQ;simp only [QW];rw [zA6 (by omega)];simp only;rw [if_neg (by omega),zPo _ o.1.2 (λs J=>by have:=(o.2.2.2 s J).2.2;omega)];simp only;rw [zA6 (by omega)];simp only;rw [show numB y=numB y++[] by simp,zA6 (by omega)];simp only;rw [VM]
    have K:h.map (bsOf ∘ λs=>s.data.toList)=h:=by
     conv=>rhs;rw [<-List.map_id h]
     apply Ja;intro s _;exact bsOf_data s
    rw [K,e]
   ·rw [if_neg e] at f ⊢;have A:=A (by omega);have c:∃b:Nat,qt=(b:Int):=⟨qt.toNat,by omega⟩;obtain⟨b,rfl⟩:=c;obtain⟨L,M,O⟩:=f;subst L M O;unfold rdQ;simp only [QW];rw [zA6 (by omega)];simp only;rw [if_pos (by omega),show numB b=numB b++[] by simp,zA6 (by omega)]
 unfold reqOf;rw [l];simp only;rw [if_pos z]
theorem zID{d:RqD}:reqOf s=some d↔RqIs d/\s=encRq d:=
 ⟨λh=>⟨zCh h,zQj h⟩,λ⟨b,c⟩=>by rw [c];exact req_of b⟩
theorem zDK{a b:KeyD}{w:World}:Sp PP 298 #[agg a,agg b] w λv w'=>Tells (lessK a b) v/\Stp w w':=by
 refine eN ?_;refine rbx λx w1 n1 c=>rbx λy z n2 d=>rX c rfl (rX d rfl ?_);refine ite (λl=>⟨.t (.inl l),stp⟩) (λl=>?_);refine rX c rfl (rX d rfl ?_);refine ite (λe=>?_) (λe=>⟨.f λh=>by unfold lessK at h;omega,stp⟩);refine rX c rfl (rX d rfl ?_);refine ite (λo=>⟨.t (.inr ⟨e,.inl o⟩),stp⟩) (λo=>?_);refine rX c rfl (rX d rfl ?_);refine ite (λp=>?_) (λp=>⟨.f λh=>by unfold lessK at h;omega,stp⟩);refine rX c rfl (rX d rfl ?_);refine ite (λr=>⟨.t (.inr ⟨e,.inr ⟨p,r⟩⟩),stp⟩) (λr=>⟨.f λh=>by unfold lessK at h;omega,stp⟩)
theorem zHV{k:KeyD}{w:World}(m:mayK k):Sp PP 232 #[agg k] w λv w'=>v=.bool true/\Stp w w':=by
 refine eN ?_;refine rbx λb w1 n1 o=>rld rfl ?_;refine ite (λc=>?_) (λc=>absurd m.1 c);refine rld rfl ?_;refine ite (λd=>?_) (λd=>absurd m.2.1 d);refine rld rfl ?_;refine ite (λh=>?pos) (λh=>?neg)
 case' neg =>
  refine rld rfl ?_;refine ite (λl=>?one) (λl=>absurd m.2.2.1 (by omega))
 all_goals
  refine rld rfl ?_;refine ite (λe=>?_) (λe=>absurd m.2.2.2.1 e);refine rld rfl ?_;exact ite (λf=>⟨rfl,stp⟩) (λf=>absurd m.2.2.2.2 f)
theorem zHW{x:StD}{w:World}(h:mayX x):Sp PP 137 #[agg x] w λv w'=>v=.bool true/\Stp w w':=by
 refine eN ?_;refine rbx λb w1 n1 c=>rG c x.key (rcall (zHV h.1) ?_);rintro _ e ⟨rfl,f⟩;refine rX c rfl (iT h.2.1 (rX c rfl ?_));exact ite (λ_=>⟨rfl,stp⟩) (λd=>absurd h.2.2 d)
theorem zND{x:StD}{w:World}(h:mayX x):Sp PP 299 #[agg x] w λv w'=>v=.bool true/\Stp w w':=by
 refine eN ?_;refine rbx λb w1 n1 c=>rG c x.key (rcall (zHV h.1) ?_);rintro _ e ⟨rfl,f⟩;refine rX c rfl (iT h.2.1 (rX c rfl ?_));exact ite (λ_=>⟨rfl,stp⟩) (λd=>absurd h.2.2 d)
theorem zKV{c:Nat}{l:List StD}{w:World}(h:SlF w (.slice a n c) l)(r:l.length<=1000000)(d:∀x∈l,mayX x):Sp PP 213 #[.slice a n c] w λv w'=>v=.bool true/\Stp w w':=by
 have f:=h.len;obtain rfl:=f;refine eN ?_;refine cN 4 [2] 3 l.length (λk u=>Stp w u) stp ?_;rintro k g u t e;refine ite (λhlt=>?_) (λo=>⟨rfl,e⟩);have b:k<l.length:=by omega
 refine rix (h.up (w':=u)) (x:=l[k]) (by simp) λy z p=>rloadA p rfl (rcall (zND (d _ (Qa b))) ?_);rintro _ A ⟨rfl,C⟩;exact rA ⟨rfl,b,stp⟩
theorem zMS(x:StD):∀(L:List StD) (i:Nat) (hi:i<L.length),(∀j,j<i->(e:j<L.length)->lessK L[j].key x.key)->¬lessK L[i].key x.key->L[i].key=x.key->putC x L=L.take i++⟨x.key,min x.d L[i].d⟩::L.drop (i+1)
 |[],i,hi,_,_,_=>absurd hi (by simp)
 |y::r,0,_,_,b,c=>by unfold putC;rw [if_neg (show ¬lessK y.key x.key from b),if_pos (show y.key=x.key from c)];simp
 |y::r,i+1,hi,h,b,c=>by
  unfold putC;rw [if_pos (show lessK y.key x.key from h 0 (by omega) (by simp)),zMS x r i (by simpa using hi) (λj e f=>h (j+1) (by omega) (by simpa using f)) b c];simp
theorem zMT(x:StD):∀(L:List StD) (i:Nat),i<=L.length->(∀j,j<i->(d:j<L.length)->lessK L[j].key x.key)->(∀hi:i<L.length,¬lessK L[i].key x.key/\L[i].key≠x.key)->putC x L=L.take i++x::L.drop i
 |[],i,hi,_,_=>by simp at hi;subst hi;simp [putC]
 |y::r,0,_,_,b=>by
  have:=b (by simp);unfold putC;rw [if_neg (show ¬lessK y.key x.key from this.1),if_neg (show ¬y.key=x.key from this.2)];simp
 |y::r,i+1,hi,h,b=>by
  unfold putC;rw [if_pos (show lessK y.key x.key from h 0 (by omega) (by simp)),zMT x r i (by simpa using hi) (λj d c=>h (j+1) (by omega) (by simpa using c)) (λc=>b (by simpa using c))];simp
theorem zNg(l:List StD)(x:StD):combL (l++[x])=putC x (combL l):=by unfold combL;rw [VF];rfl
theorem zNE{c:Nat}{l:List StD}{x:StD}{w:World}(h:SlF w (.slice a n c) l)(hn:l.length<=1000000):Sp PP 364 #[.slice a n c,agg x] w λv w'=>Own w.heap.size 211 w' v (putC x l)/\Stp w w':=by
 have q_:=h.len;obtain rfl:=q_;refine eN ?_;refine rbx λbx w1 n1 t=>?_;have a0:=n1.b;have a1:=n1.s;refine cntJ TBok 0 7 [] 5 l.length (λj u'=>(∀i,i<j->(U:i<l.length)->lessK l[i].key x.key)/\Stp w1 u') (λj u'=>j<=l.length/\(∀i,i<j->(U:i<l.length)->lessK l[i].key x.key)/\(∀U:j<l.length,¬lessK l[j].key x.key)/\Stp w1 u') rfl rfl ⟨by omega,stp⟩ ?_ ?_
 ·rintro j g u' p ⟨r,e'⟩;refine dQ 14 λu1 e1=>ite (λh1=>?_) (λh1=>⟨j,rfl,p,r,λh=>absurd h (by omega),stp⟩);have f:j<l.length:=by omega
  refine tix (h.up (w':=u1)) (x:=l[j]) (by simp) λV W y _=>tloadA (cs:=enc l[j].key) (y.sub 0 3) rfl nf (tG t x.key nf (rcall (zDK (a:=l[j].key) (b:=x.key)) ?_));rintro _ F ⟨⟨rfl,G⟩|⟨rfl,G⟩,H⟩
  ·exact⟨H.e,rA ⟨rfl,f,below2 r λ_=>G,stp⟩⟩
  ·exact⟨H.e,⟨j,rfl,p,r,λ_=>G,stp⟩⟩
 rintro j g u ⟨p,r,z,e⟩;refine rsl none (some j) (h.up (w':=u)) (by simp) (by simpa using p) λX Y S1=>?_;refine rapp (u:=u) ⟨rfl,rfl⟩ (Own.nil _ 211 _) S1 (by simp;omega) λZ w3 A f3 s3=>?_;rw [zCX] at A;have A:Own u.heap.size 211 w3 Z (l.take j):=by simpa using A
 have hu:=lz w1 u;have a4:=lz u w3;refine dQ 14 λF H=>ite (λh3=>?pos2) (λh3=>?neg2)
 case' pos2 =>
  have f:j<l.length:=by omega
  refine tix (h.up (w':=F)) (x:=l[j]) (by simp) λV W y _=>tloadA (cs:=enc l[j].key) (y.sub 0 3) rfl nf (tG t x.key nf (tgeq KeyD l[j].key x.key (λI=>?same) (λI=>?new)))
  case same =>
   have o:=zMS x l j f r (z f) I;have O4:=A.up (w':=F);refine dD (ownD u.heap.size Z) (upF 15 0) λu4 J=>tG t x.key (λhd=>by have:=hd.1;omega) (tX t rfl (λhd=>by have:=hd.1;omega) ?_)
   refine tix (h.up (w':=u4)) (x:=l[j]) (by simp) λV W y h5=>tload1 (y.cell 3 rfl) (λhd=>by
    obtain⟨b',h6,h7⟩:=h.lt (by intro h0;rw [h0] at f;simp at f);rw [h5] at h6;cases h6;have:=hd.1;have:=lz w w1;omega) ?_
   refine tmin ?_;refine tbuild (cs:=enc (⟨x.key,min x.d l[j].d⟩:StD)) rfl (bS (⟨x.key,min x.d l[j].d⟩:StD) λb4 K J _ L=>⟨Fr.fr J.e,?_⟩);refine rapp1 (u:=u) ⟨rfl,rfl⟩ (O4.up (w':=K)) L (by simp;omega) λv5 M O f5 s5=>⟨f5,?_⟩;refine rA (rsl (some (j+1)) none (h.up (w':=M)) (by simp;omega) (by simp) λX Y Q=>?_);refine rapp (u:=u) ⟨rfl,rfl⟩ O Q (by simp;omega) λR S C f7 s7=>?_
   have T:Own u.heap.size 211 S R (putC x l):=by
    rw [o];rw [zBB] at C;simpa using C
   exact⟨T.older,stp⟩
  have E:∀hi:j<l.length,¬lessK l[j].key x.key/\l[j].key≠x.key:=λhi=>⟨z hi,I⟩
 case' neg2 =>
  have E:∀hi:j<l.length,¬lessK l[j].key x.key/\l[j].key≠x.key:=λhi=>absurd hi (by omega)
 all_goals
  have o:=zMT x l j p r E;refine rG t x (bS x λb4 K J _ L=>rapp1 (u:=u) ⟨rfl,rfl⟩ (A.up (w':=K)) L (by simp;omega) λv5 M O f5 s5=>rsl (some j) none (h.up (w':=M)) (by simpa using p) (by simp) λX Y Q=>?_);refine rapp (u:=u) ⟨rfl,rfl⟩ O Q (by simp;omega) λR S C f7 s7=>?_
  have T:Own u.heap.size 211 S R (putC x l):=by
   rw [o];rw [zBB] at C;simpa using C
  exact⟨T.older,stp⟩
theorem zIw{c:Nat}{l:List StD}{w:World}(h:SlF w (.slice a n c) l)(y:l.length<=1000000):Sp PP 300 #[.slice a n c] w λv w'=>Own w.heap.size 211 w' v (combL l)/\Stp w w':=by
 have b:=h.len;obtain rfl:=b;refine eN ?_;refine cO 5 [] 3 4 l.length (λk v u=>Own w.heap.size 211 u v (combL (l.take k))/\Stp w u) ⟨Own.nil _ _ _,stp⟩ ?_;rintro k v g u z ⟨O,e⟩;refine ite (λhlt=>?_) (λp=>?_)
 ·have d:k<l.length:=by omega
  have f:=zCn (l.take k);rw [Qm] at f;refine rix (h.up (w':=u)) (x:=l[k]) (by simp) λA C r=>rloadA r rfl ?_;have b:=O.shape;obtain⟨oa,oc,rfl⟩:=b;refine rcall (zNE (x:=l[k]) O.sl (by omega)) ?_;rintro _ E ⟨t,F⟩;refine rA ⟨rfl,d,?_,stp⟩;have o:=t.mono (lz w u);rw [<-zNg,<-take_add d] at o;exact o
 ·have b:k=l.length:=by omega
  obtain rfl:=b;rw [Qg] at O;exact⟨O,e⟩
theorem zKY{c:Nat}{l:List StD}{k:KeyD}{w:World}(h:SlF w (.slice a n c) l)(G:l.length<=1000000):Sp PP 301 #[.slice a n c,agg k] w λv w'=>v=.bool (keyIn l k)/\Stp w w':=by
 have f:=h.len;obtain rfl:=f;refine eN ?_;refine rbx λbx w1 n1 z=>cN 6 [4] 5 l.length (λj u=>(∀y∈l.take j,y.key≠k)/\Stp w1 u) ⟨by simp,stp⟩ ?_;rintro j g u H ⟨o,e⟩;refine ite (λhlt=>?_) (λA=>?_)
 ·have d:j<l.length:=by omega
  refine dQ 7 λC I=>tix (h.up (w':=C)) (x:=l[j]) (by simp) λJ K E _=>tloadA (cs:=enc l[j].key) (E.sub 0 3) rfl nf (tG z k nf (tgeq KeyD l[j].key k (λp=>?_) (λp=>?_)))
  ·have r:keyIn l k=true:=zBW.2 ⟨_,Qa d,p⟩;exact⟨by rw [r];rfl,stp⟩
  ·refine rA ⟨rfl,d,λy b=>?_,stp⟩;rw [take_add d] at b;have f:=Qf.1 b;rcases f with b|b
   ·exact o y b
   ·rw [Qc.1 b];exact p
 ·have f:j=l.length:=by omega
  obtain rfl:=f;rw [Qg] at o
  have r:keyIn l k=false:=by
   cases F:keyIn l k with
   |false=>rfl
   |true=>obtain⟨y,b,t⟩:=zBW.1 F;exact absurd t (o y b)
  exact⟨by rw [r];rfl,stp⟩
theorem zNp(S M:List StD):(freshL S M).length<=M.length:=Qw (Qv _ _) (zCn M)
theorem zFD{c t:Nat}{S M:List StD}{w:World}(h:SlF w (.slice a n c) S)(z:SlF w (.slice a2 n2 t) M)(A:S.length<=1000000)(C:M.length<=1000000):
  Sp PP 215 #[.slice a n c,.slice a2 n2 t] w λv w'=>Own w.heap.size 211 w' v (freshL S M)/\Stp w w':=by
 have d:=h.len;obtain rfl:=d;refine eN ?_;refine rcall (zIw z C) ?_;rintro _ w1 ⟨f,R⟩;have d:=f.shape;obtain⟨T,U,rfl⟩:=d;have E:=zCn M;refine cO 8 [] 6 7 (combL M).length (λk v u=>Own w1.heap.size 211 u v (((combL M).take k).filter λx=>!keyIn S x.key)/\Stp w1 u) ⟨Own.nil _ _ _,stp⟩ ?_;rintro k v g u V ⟨O,e⟩;refine ite (λhlt=>?_) (λF=>?_)
 ·have b:k<(combL M).length:=by omega
  have l:=Qv (λx:StD=>!keyIn S x.key) ((combL M).take k);rw [Qm] at l;refine rix (f.sl.up (w':=u)) (x:=(combL M)[k]) (by simp) λG H o=>rloadA (cs:=enc (combL M)[k].key) (o.sub 0 3) rfl (rcall (zKY (k:=(combL M)[k].key) (h.up (w':=u)) A) ?_);rintro _ p ⟨rfl,W⟩;cases y:keyIn S (combL M)[k].key
  ·refine rix (f.sl.up (w':=p)) (x:=(combL M)[k]) (by simp) λG H o=>rloadA o rfl (rbs1 (combL M)[k] rfl rfl (by decide) λX I Y _ J=>rapp1 (u:=w1) ⟨rfl,rfl⟩ (O.up (w':=I)) J (by omega) λK L Q Z s5=>?_);have r:Own w1.heap.size 211 L K (((combL M).take (k+1)).filter λx=>!keyIn S x.key):=by rw [take_add b,QV];simpa [y] using Q
   exact rA ⟨rfl,b,r,stp⟩
  ·have r:Own w1.heap.size 211 p v (((combL M).take (k+1)).filter λx=>!keyIn S x.key):=by rw [take_add b,QV];simpa [y] using O.up (w':=p)
   exact rA ⟨rfl,b,r,stp⟩
 ·have d:k=(combL M).length:=by omega
  obtain rfl:=d;rw [Qg] at O;exact⟨O.mono (lz w w1),stp⟩
theorem zMu{l:List EdN}{v:Nat}(b:j<(atV l v).length):(atV l v)[j]∈l/\(atV l v)[j].f=v:=by
 have:=QC.1 (Qa b);exact⟨this.1,by simpa using this.2⟩
theorem zM5(l:List EdN)(v:Nat):toL (atV l v)=intsN (rowN l v):=by unfold toL intsN rowN;rw [VM];rfl
theorem cLt_n{l:List EdN}(b:RowI n l):cLt l n=l.length:=zFZ λe c=>(b.lt e c).1
theorem zGC{l:List EdN}{L M:Nat}{oa:Option Addr}{oc:Nat}{ta:Option Addr}{tc:Nat}{w:World}(c:RowI n l)(d:SlF w (.slice oa L oc) (offL n l))(z:SlF w (.slice ta M tc) (toL l)):
  Sp PP 295 #[.slice oa L oc,.slice ta M tc] w λv w'=>v=.bool true/\Stp w w':=by
 have O:=d.len;have Q:=z.len;have T:=zAp n l;have U:=zAx l;have h1:=c.n1;have h2:=c.n2;have hl:=c.len;have hn:=cLt_n c;rw [T] at O;rw [U] at Q;subst O Q;refine eN ?_;refine iF (by omega) (iF (by omega) (rix (i:=0) d (zAk (v:=0) (by omega)) λF G f=>rload1 (f.cell0 rfl) (iF (by rw [zB8];decide) (rarE (y:=((n:Nat):Int)) (by omega) (by omega) (rix d (zAk (v:=n) (by omega)) λF G f=>rload1 (f.cell0 rfl) (iF (by omega) (iF (by omega) (loop1 TBok 6 [4] 5 (λv u=>∃k:Nat,v=.int .i64 ((k:Int)+1)/\k<=n/\Stp w u) (λv _=>n+1 - (Go.RowKit.intOf v).toNat) rfl ⟨0,rfl,by omega,stp⟩ ?_))))))));rintro _ g u ⟨k,rfl,V,e⟩;refine ite (λhlt=>?_) (λH=>?_)
 ·refine dQ 10 λp W=>tix (i:=k+1) (d.up (w':=p)) (zAk (v:=k+1) (by omega)) λr x b _=>tload1 (b.cell0 rfl) nf (rarE (y:=((k:Nat):Int)) (by omega) (by omega) (tix (d.up (w':=p)) (zAk (v:=k) (by omega)) λr x b _=>tload1 (b.cell0 rfl) nf ?_));have X:=zBn l k;refine iF (by omega) (rA ⟨⟨k+1,rfl,by omega,stp⟩,?_⟩);show n+1 - (((k:Int)+1+1)).toNat<n+1 - (((k:Int)+1)).toNat;omega
 refine loop1 TBok 7 [4] 6 (λv u'=>∃k:Nat,v=.int .i64 ((k:Int)+1)/\k<=n/\Stp u u') (λv _=>n+1 - (Go.RowKit.intOf v).toNat) rfl ⟨0,rfl,by omega,stp⟩ ?_;rintro _ g u' ⟨k,rfl,V,e'⟩;refine ite (λhlt=>?_) (λH=>⟨rfl,stp⟩);refine rarE (y:=((k:Nat):Int)) (by omega) (by omega) (rix (d.up (w':=u')) (zAk (v:=k) (by omega)) λF G f=>rload1 (f.cell0 rfl) ?_);have X:=zBn l k;have hs:=zC3 l k;have Y:=cLt_le l (k+1);have Z:=zIe l k;refine loop1 TBok 8 [4] 7 (λv p=>∃j:Nat,v=.int .i64 ((cLt l k+j:Nat):Int)/\cLt l k+j<=cLt l (k+1)/\Stp u' p) (λv _=>cLt l (k+1) - (Go.RowKit.intOf v).toNat) rfl ⟨0,rfl,by omega,stp⟩ ?_;rintro _ g p ⟨j,rfl,hj,W⟩;refine rix (i:=k+1) (d.up (w':=p)) (zAk (v:=k+1) (by omega)) λF G f=>rload1 (f.cell0 rfl) (ite (λa0=>?_) (λhgj=>?_))
 ·have o:j<(atV l k).length:=by omega
  have I:=at_get c.ris o;have J:=zMu o;have R:=c.lt _ J.1;have hgt:(toL l)[cLt l k+j]? = some ((atV l k)[j].t:Int):=by unfold toL;rw [QK,I.1];rfl
  refine dQ 36 λA e3=>tix (z.up (w':=A)) hgt λr x b _=>tload1 (b.cell0 rfl) nf (iF (by omega) (tix (z.up (w':=A)) hgt λr x b _=>tload1 (b.cell0 rfl) nf (rarE (y:=((n:Nat):Int)) (by omega) (by omega) (iF (by omega) (rarE (y:=((k:Nat):Int)) (by omega) (by omega) (tix (d.up (w':=A)) (zAk (v:=k) (by omega)) λr x b _=>tload1 (b.cell0 rfl) nf (ite (λa1=>?_) (λS=>?_))))))))
  ·have q_:∃i,j=i+1:=⟨j - 1,by omega⟩;obtain⟨i,rfl⟩:=q_;have K:=at_get c.ris (show i<(atV l k).length by omega);have C:(toL l)[cLt l k+i]? = some ((atV l k)[i].t:Int):=by unfold toL;rw [QK,K.1];rfl
   have E:=zHk c.ris k;unfold rowN at E;rw [QY] at E;have E:=QX.1 E i (i+1) (by omega) o (by omega);refine tix (z.up (w':=A)) hgt λr x b _=>tload1 (b.cell0 rfl) nf (rarE (y:=((cLt l k+i:Nat):Int)) (by omega) (by omega) (tix (z.up (w':=A)) C λr x b _=>tload1 (b.cell0 rfl) nf (iF (by omega) (rarE (y:=((cLt l k+(i+1+1):Nat):Int)) (by omega) (by omega) ⟨⟨i+1+1,rfl,by omega,stp⟩,?_⟩))));show cLt l (k+1) - (((cLt l k+(i+1+1):Nat):Int)).toNat<cLt l (k+1) - (((cLt l k+(i+1):Nat):Int)).toNat;omega
  ·refine rarE (y:=((cLt l k+(j+1):Nat):Int)) (by omega) (by omega) ⟨⟨j+1,rfl,by omega,stp⟩,?_⟩;show cLt l (k+1) - (((cLt l k+(j+1):Nat):Int)).toNat<cLt l (k+1) - (((cLt l k+j:Nat):Int)).toNat;omega
 ·refine rA ⟨⟨k+1,rfl,by omega,stp⟩,?_⟩;show n+1 - (((k:Int)+1+1)).toNat<n+1 - (((k:Int)+1)).toNat;omega
theorem zCT{l:List EdN}{o p v:Nat}{oa:Option Addr}{oc:Nat}{ta:Option Addr}{tc:Nat}{w:World}(d:RowI n l)(h:SlF w (.slice oa o oc) (offL n l))(r:SlF w (.slice ta p tc) (toL l))(I:v<n):
  Sp PP 296 #[.slice oa o oc,.slice ta p tc,.int .i64 (v:Int)] w λz w'=>Own w.heap.size 3 w' z (toL (atV l v))/\Stp w w':=by
 have J:=h.len;have K:=r.len;have L:=zAp n l;have M:=zAx l;have O:=d.n2;refine eN ?_;refine dQ 13 λc Q=>?_;have t:=zBn l v;have A:=cLt_le l (v+1);refine tix (h.up (w':=c)) (zAk (v:=v) (by omega)) λR S C _=>tload1 (C.cell0 rfl) nf (rarE (y:=((v+1:Nat):Int)) (by omega) (by omega) (tix (h.up (w':=c)) (zAk (v:=v+1) (by omega)) λT U E _=>tload1 (E.cell0 rfl) nf ?_));have x:=r.up (w':=c);refine tslD (cLt l v) (cLt l (v+1)) x t (by omega) ?_;have b:=x.part (cLt l v) (cLt l (v+1)) t (by omega);rw [zGa d.ris v] at b;refine rcall (zHT b (by rw [zAx];have:=Qv (λF=>decide (F.f=v)) l;have:=d.len;unfold atV;omega)) ?_;rintro V W ⟨G,H⟩;exact⟨H.e,⟨G.mono (lz w c),stp⟩⟩
theorem zOm{c:Nat}{l:List Int}{x:Int}{w:World}(h:SlF w (.slice a n c) l)(E:l.length<=1000000):Sp PP 297 #[.slice a n c,.int .i64 x] w λv w'=>Tells (x∈l) v/\Stp w w':=by
 have d:=h.len;obtain rfl:=d;refine eN ?_;refine cN 6 [4] 5 l.length (λk w'=>(∀j,j<k->¬l[j]? = some x)/\Stp w w') ⟨by omega,stp⟩ ?_;rintro k g w' F ⟨p,e⟩;refine ite (λhlt=>?_) (λr=>?_)
 ·have b:k<l.length:=by omega
  refine rix h.up (x:=l[k]) (by simp) λG H y=>rload1 (y.cell0 rfl) (ite (λz=>?_) (λo=>?_))
  ·exact⟨.t (by rw [<-z];exact Qa b),stp⟩
  ·exact rA ⟨rfl,b,below p (by simpa [b] using o),stp⟩
 ·have d:k=l.length:=by omega
  obtain rfl:=d;refine⟨.f λA=>?_,stp⟩;have d:=QI.1 A;obtain⟨j,C,rfl⟩:=d;exact p j C (by simp)
theorem zB3{x:RRow}{r:List EdN}{w:World}(c:GrIs g)(R:RwF w x g r):Sp PP 211 #[agg x] w λv w'=>v=.bool true/\Stp w w':=by
 have y:=c.rowI;have H:=c.rowR R.rev';have l1:=R.off.len;have l2:=R.to.len;have l3:=R.rof.len;have l4:=R.rev.len;have q1:=zAp g.n g.es;have q2:=zAx g.es;have q3:=zAp g.n r;have q4:=zAx r;have z:=R.rev'.1.length_eq;have O:=c.ok.n2;rw [Qr] at z;refine eN ?_;refine rbx λbx w1 n1 b=>rX b rfl (rX b rfl ?_);refine iF (by omega) (rX b rfl (rX b rfl ?_));refine rcall (zGC y (R.off.up (w':=w1)) (R.to.up (w':=w1))) ?_;rintro _ I ⟨rfl,e2⟩;refine rX b rfl (rX b rfl ?_);refine rcall (zGC H (R.rof.up (w':=I)) (R.rev.up (w':=I))) ?_;rintro _ w3 ⟨rfl,e3⟩;refine rX b rfl (rX b rfl ?_);refine iF (by omega) (cN 4 [2] 3 g.n (λk u=>Stp w1 u) stp ?_);rintro k gf u hk e;refine rA (rX b rfl (ite (λhlt=>?_) (λQ=>⟨rfl,stp⟩)));have d:k<g.n:=by omega
 refine rX b rfl (rX b rfl ?_);refine rcall (zCT y (R.off.up (w':=u)) (R.to.up (w':=u)) d) ?_;rintro _ S ⟨J,e1⟩;have A:=J.shape;obtain⟨la,lc,rfl⟩:=A;have T:=zAx (atV g.es k);have U:(atV g.es k).length<=2000:=by have:=Qv (λC=>decide (C.f=k)) g.es;have:=c.ne;unfold atV;omega
 refine cN 6 [2] 5 (toL (atV g.es k)).length (λj K=>Stp S K) stp ?_;rintro j V K hj W;refine ite (λX=>?_) (λhgj=>?_)
 ·have l:j<(atV g.es k).length:=by omega
  have E:=zMu l;have o:=y.lt _ E.1;have p:=zM2 R.rev' E.1;rw [E.2] at p;refine dD (λ_=>False) [0,1,2,3,4,5,6,7,9,8,10,11] λF Y=>tX b rfl nf (tX b rfl nf ?_);refine tix (J.sl.up (w':=F)) (i:=j) (x:=((atV g.es k)[j].t:Int)) (by simp [toL,l]) λb4 o4 Z _=>tload1 (Z.cell0 rfl) nf (rcall (zCT (v:=(atV g.es k)[j].t) H (R.rof.up (w':=F)) (R.rev.up (w':=F)) o.2) ?_);rintro _ u4 ⟨L,e4⟩;refine⟨e4.e,?_⟩;have A:=L.shape;obtain⟨ma,mc,rfl⟩:=A;have G:(toL (atV r (atV g.es k)[j].t)).length<=1000000:=by rw [zAx];have:=Qv (λC=>decide (C.f=(atV g.es k)[j].t)) r;have:=c.ne;unfold atV at *;omega
  refine rcall (zOm (x:=(k:Int)) L.sl G) ?_;rintro _ u5 ⟨⟨rfl,M⟩|⟨rfl,M⟩,e5⟩
  case' inr=>exact absurd p M
  refine⟨e5.e,?_⟩;exact rA ⟨rfl,by omega,stp⟩
 ·exact rA ⟨rfl,d,stp⟩
theorem zHU{x:RRow}{r:List EdN}{v:Nat}{w:World}(c:GrIs g)(R:RwF w x g r)(f:v<g.n):
  Sp PP 302 #[agg x,.int .i64 (v:Int)] w λl w'=>(∃e,l=.tuple #[e,.bool true]/\Own w.heap.size 3 w' e (intsN (nbL g 0 v)))/\Stp w w':=by
 have o:=R.off.len;have p:=zAp g.n g.es;refine eN ?_;refine rbx λbx w1 n1 b=>rG b x (rcall (zB3 c (R.up (w':=w1))) ?_);rintro _ d ⟨rfl,t⟩;refine iF (by omega) (rX b rfl (rarE (y:=((g.n:Nat):Int)) (by omega) (by have:=c.ok.n2;omega) (iF (by omega) (rX b rfl (rX b rfl ?_)))));refine rcall (zCT c.rowI (R.off.up (w':=d)) (R.to.up (w':=d)) f) ?_;rintro _ z ⟨O,A⟩;rw [zM5,<-zK9] at O;exact⟨⟨_,rfl,O.mono (lz w d)⟩,stp⟩
theorem zJl{x:RRow}{r:List EdN}{v:Nat}{w:World}(b:GrIs g)(R:RwF w x g r)(f:v<g.n):
  Sp PP 303 #[agg x,.int .i64 (v:Int)] w λl w'=>(∃e,l=.tuple #[e,.bool true]/\Own w.heap.size 3 w' e (intsN (nbL g 1 v)))/\Stp w w':=by
 have o:=R.off.len;have p:=zAp g.n g.es;refine eN ?_;refine rbx λbx w1 n1 c=>rG c x (rcall (zB3 b (R.up (w':=w1))) ?_);rintro _ d ⟨rfl,t⟩;refine iF (by omega) (rX c rfl (rarE (y:=((g.n:Nat):Int)) (by omega) (by have:=b.ok.n2;omega) (iF (by omega) (rX c rfl (rX c rfl ?_)))));refine rcall (zCT (b.rowR R.rev') (R.rof.up (w':=d)) (R.rev.up (w':=d)) f) ?_;rintro _ z ⟨O,A⟩;rw [zM5,<-zMX b.er R.rev'] at O;exact⟨⟨_,rfl,O.mono (lz w d)⟩,stp⟩
theorem rixQ{α:Type}[Enc α]{k:Value->World->Prop}{f:List PanicEntry->World->Prop}{w:World}{t e:TypeId}{z:Value}{sz b:Nat}[r:SlT P t e][v:Elem P e z sz b]{q:Value}(o:q=.int .i64 (i:Int))(d:Enc.sz α=sz){c:Nat}{l:List α}{x:α}(h:Own B e w (.slice a n c) l)(hi:l[i]? = some x)
  (p:∀g,Value.blk (.slice a n c)=some g->B<=g->At w g (i*sz) (enc x)->k (.pointer (some ⟨g,i*sz,none⟩)) w):SemV P (Instr.indexAt t (.slice a n c) q) k f w:=by
 subst o;exact rixO d h hi p
theorem zLU{v:Int}{W:Nat}{w:World}(b:0<=v/\v<=1000000)(c:1<=W/\W<=16):Sp PP 138 #[.int .i64 v,.int .i64 (W:Int)] w λr w'=>r=.tuple #[.int .i64 (homW W v),.bool true]/\w'=w:=by
 refine eN ?_;refine ite (λh=>absurd h (by omega)) (λd=>?_);refine ite (λh=>absurd h (by omega)) (λe=>?_);refine ite (λh=>absurd h (by omega)) (λf=>?_);refine ite (λh=>absurd h (by omega)) (λl=>?_);refine rA (rA (rrem (by omega) (by omega) (rrem (Vs _ (by decide)) (by omega) ?_)));exact⟨rfl,rfl⟩
theorem zKX{c:Nat}{l:List StD}{w:World}(h:SlF w (.slice a n c) l)(K:l.length<=1000000)(C:SRis l)(E:∀x∈l,mayX x):Sp PP 212 #[.slice a n c] w λv w'=>v=.bool true/\Stp w w':=by
 have o:=h.len;obtain rfl:=o;refine eN ?_;refine cN 4 [2] 3 l.length (λk u=>Stp w u) stp ?_;rintro k g u L e;refine ite (λhlt=>?_) (λF=>⟨rfl,e⟩);have d:k<l.length:=by omega
 refine dQ 25 λG M=>tix (h.up (w':=G)) (x:=l[k]) (by simp) λr t f _=>tloadA f rfl nf (rcall (zHW (E _ (Qa d))) ?_);rintro _ z ⟨rfl,H⟩;refine⟨H.e,?_⟩;refine ite (λI=>?_) (λI=>?_)
 ·have o:∃j,k=j+1:=⟨k - 1,by omega⟩;obtain⟨j,rfl⟩:=o;have p:j<l.length:=by omega
  refine rarE (y:=(j:Int)) (by omega) (by omega) (tix (i:=j) (h.up (w':=z)) (x:=l[j]) (by simp) λr t f _=>tloadA (cs:=enc l[j].key) (f.sub 0 3) rfl nf (tix (i:=j+1) (h.up (w':=z)) (x:=l[j+1]) (by simp) λr t f _=>tloadA (cs:=enc l[j+1].key) (f.sub 0 3) rfl nf (rcall (zDK (a:=l[j].key) (b:=l[j+1].key)) ?_)));rintro _ O ⟨⟨rfl,A⟩|⟨rfl,A⟩,J⟩
  case' inr=>exact absurd (QX.1 C j (j+1) p d (by omega)) A
  exact⟨J.e,rA ⟨rfl,d,stp⟩⟩
 ·exact rA ⟨rfl,d,stp⟩
theorem zJL{c o:Nat}{S M:List StD}{w:World}(h:SlF w (.slice a n c) S)(p:SlF w (.slice a2 n2 o) M)(E:S.length<=1000000)(F:M.length<=1000000)(r:∀x∈S,x.key.v<N)(t:∀x∈M,x.key.v<N):
  Sp PP 214 #[.slice a n c,.slice a2 n2 o,.int .i64 (N:Int)] w λv w'=>v=.bool true/\Stp w w':=by
 have d:=h.len;obtain rfl:=d;have d:=p.len;obtain rfl:=d;refine eN ?_;refine cN 8 [6] 7 S.length (λk u=>Stp w u) stp ?_;rintro k g u y e;refine ite (λhlt=>?_) (λf=>?_)
 ·have b:k<S.length:=by omega
  refine rix (h.up (w':=u)) (x:=S[k]) (by simp) λz A l=>rload1 (l.cell 2 rfl) (ite (λC=>absurd (r _ (Qa b)) (by omega)) (λ_=>?_));exact rA ⟨rfl,b,stp⟩
 refine cN 9 [6] 8 M.length (λk u'=>Stp u u') stp ?_;rintro k g u' y G;refine ite (λhlt=>?_) (λf=>⟨rfl,stp⟩);have b:k<M.length:=by omega
 refine rix (p.up (w':=u')) (x:=M[k]) (by simp) λz A l=>rload1 (l.cell 2 rfl) (ite (λC=>absurd (t _ (Qa b)) (by omega)) (λ_=>?_));exact rA ⟨rfl,b,stp⟩
def cntL (W:Nat) (S:List StD):List Int:=(List.range W).map λp:Nat=>(((S.filter λx=>decide (homW W x.key.v=p)).length:Nat):Int)
theorem zKa(W:Nat)(S:List StD):(cntL W S).length=W:=by simp [cntL]
theorem zNX{W p:Nat}{S:List StD}{x:StD}(c:homW W x.key.v=p)(b:p<W):∃m:Nat,(cntL W S)[p]? = some (m:Int)/\m<=S.length/\cntL W (S++[x])=(cntL W S).set p ((m:Int)+1):=by
 refine⟨_,zAT b,Qv _ _,?_⟩;unfold cntL;rw [zCx b];apply Ja;intro j _;rw [QV,Qb];by_cases e:j=p
 ·rw [if_pos e,e];simp [c]
 ·rw [if_neg e];have:¬(homW W x.key.v=j):=λh=>e (by omega);simp [this]
theorem zL2{c W:Nat}{S:List StD}{w:World}(h:SlF w (.slice a n c) S)(hn:S.length<=1000000)(F:1<=W/\W<=16)(M:∀x∈S,mayX x):
  Sp PP 73 #[.slice a n c,.int .i64 (W:Int)] w λv w'=>(∃G,v=.tuple #[G,.int .i64 0]/\Own w.heap.size 3 w' G (cntL W S))/\Stp w w':=by
 have b:=h.len;obtain rfl:=b;refine eN ?_;refine ite (λh=>absurd h (by omega)) (λQ=>?_);refine ite (λh=>absurd h (by omega)) (λR=>?_);refine rmk (0:Int) rfl rfl (by omega) λT w1 H s1 U=>?_
 have V:List.replicate W (0:Int)=cntL W []:=by
  apply Xg
  ·simp [cntL]
  ·intro i Q R;simp [cntL]
 rw [V] at H;refine cN 8 [4,5] 7 S.length (λk u=>Own w.heap.size 3 u (.slice (some ⟨T,0,none⟩) W W) (cntL W (S.take k))/\Stp w u) ⟨H,stp⟩ ?_;rintro k g u hk ⟨O,e⟩;refine ite (λhlt=>?_) (λX=>?_)
 ·have d:k<S.length:=by omega
  have f:=M _ (Qa d);have o:=f.1;unfold mayK at o;refine rix (h.up (w':=u)) (x:=S[k]) (by simp) λY Z r=>rloadA r rfl (rcall (zHW f) ?_);rintro _ t ⟨rfl,e1⟩;refine rix (h.up (w':=t)) (x:=S[k]) (by simp) λY Z r=>rload1 (r.cell 2 rfl) (rcall (zLU (v:=S[k].key.v) (by omega) F) ?_);rintro _ t ⟨rfl,rfl⟩;have b:=zIn F.1 S[k].key.v;obtain⟨p,I,y⟩:=b;have b:=zNX (S:=S.take k) I y;obtain⟨m,l,z,C⟩:=b;rw [Qm] at z;have a0:=zKa W (S.take k);have E:=O.up (w':=t);have J:Value.int IntKind.i64 (homW W S[k].key.v)=.int .i64 (p:Int):=by rw [I]
  refine rixQ J rfl E l λg' K _ A=>rload1 (A.cell0 rfl) ?_;refine rA (rixQ J rfl E l λg' K _ A=>?_);refine rstO rfl ((m:Int)+1) E K (by omega) rfl λu2 L f3 s3 _=>?_;rw [<-C,<-take_add d] at L;exact rA ⟨rfl,d,L,stp⟩
 ·have b:k=S.length:=by omega
  obtain rfl:=b;rw [Qg] at O;exact⟨⟨_,rfl,O⟩,e⟩
theorem zNF{c:Nat}{l:List StD}{x:StD}{w:World}(h:SlF w (.slice a n c) l)(X:l.length<=1000000):Sp PP 217 #[.slice a n c,agg x] w λv w'=>Own w.heap.size 222 w' v (insS x l)/\Stp w w':=by
 have E:=h.len;obtain rfl:=E;refine eN ?_;refine rbx λbx w1 n1 y=>cntJ TBok 0 7 [] 5 l.length (λj u'=>(∀i,i<j->(z:i<l.length)->lessK l[i].key x.key)/\Stp w1 u') (λj u'=>j<=l.length/\(∀i,i<j->(z:i<l.length)->lessK l[i].key x.key)/\(∀z:j<l.length,¬lessK l[j].key x.key)/\Stp w1 u') rfl rfl ⟨by omega,stp⟩ ?_ ?_
 ·rintro j g u' d ⟨f,Y⟩;refine dQ 14 λF Z=>ite (λG=>?_) (λG=>⟨j,rfl,d,f,λh=>absurd h (by omega),stp⟩);have p:j<l.length:=by omega
  refine tix (h.up (w':=F)) (x:=l[j]) (by simp) λb1 o1 H _=>tloadA (cs:=enc l[j].key) (H.sub 0 3) rfl nf (tG y x.key nf (rcall (zDK (a:=l[j].key) (b:=x.key)) ?_));rintro _ u2 ⟨⟨rfl,r⟩|⟨rfl,r⟩,A⟩
  ·exact⟨A.e,rA ⟨rfl,p,below2 f λ_=>r,stp⟩⟩
  ·exact⟨A.e,⟨j,rfl,d,f,λ_=>r,stp⟩⟩
 rintro j g u ⟨d,f,t,e⟩;refine rsl none (some j) (h.up (w':=u)) (by simp) (by simpa using d) λI J K=>?_;refine rapp (u:=u) ⟨rfl,rfl⟩ (Own.nil _ 222 _) K (by simp;omega) λL M o f3 s3=>?_;rw [zCX] at o;have o:Own u.heap.size 222 M L (l.take j):=by simpa using o
 refine rG y x (bS x λb4 O e4 _ Q=>rapp1 (u:=u) ⟨rfl,rfl⟩ (o.up (w':=O)) Q (by simp;omega) λv5 R S f5 s5=>rsl (some j) none (h.up (w':=R)) (by simpa using d) (by simp) λI J T=>?_);refine rapp (u:=u) ⟨rfl,rfl⟩ S T (by simp;omega) λU V C f7 s7=>?_
 have W:Own u.heap.size 222 V U (insS x l):=by
  rw [zMJ x l j d f t];rw [zBB] at C;simpa using C
 exact⟨W.older,stp⟩
theorem zKW{xq:RQ}{slot:Int}{w:World}(A:xq.kind=q.kind/\xq.frm=q.frm/\xq.to=q.to)(o:QyOk q g.n):
  Sp PP 59 #[agg xq,.int .i64 slot] w λv w'=>Own w.heap.size 211 w' v (mls g q slot 0)/\Stp w w':=by
 obtain⟨C,d,p⟩:=A;have b:=o.frm;have r:=o.kind;have f:src q 0=[q.frm.toNat]:=rfl;refine eN ?_;refine rbx λI w1 n1 l=>rX l rfl (iF (by omega) (rX l rfl (iF (by omega) (rX l rfl (rbuild (cs:=enc (⟨slot,0,xq.frm⟩:KeyD)) rfl (rbuild (cs:=enc (⟨⟨slot,0,xq.frm⟩,0⟩:StD)) rfl (rbs [(⟨⟨slot,0,xq.frm⟩,0⟩:StD)] rfl (vs:=[_]) rfl rfl (by decide) λE y n2 J=>?_)))))));have K:Stp w1 y:=⟨n2.ext⟩;have t:Own w1.heap.size 211 y (.slice (some ⟨E,0,none⟩) 1 1) [(⟨⟨slot,0,xq.frm⟩,0⟩:StD)]:=n2.own (by simp) rfl (by omega) (Qe _);refine rX l rfl (ite (λF=>?_) (λF=>?_))
 ·have x:=o.to (by omega);have c:src q 1=[q.to.toNat]:=by unfold src;rw [if_neg (by decide),if_pos (by omega)]
  refine rX l rfl (rbuild (cs:=enc (⟨slot,1,xq.to⟩:KeyD)) rfl (rbuild (cs:=enc (⟨⟨slot,1,xq.to⟩,0⟩:StD)) rfl (bS (⟨⟨slot,1,xq.to⟩,0⟩:StD) λL G M _ H=>rapp1 (u:=w1) ⟨rfl,rfl⟩ (t.up (w':=G)) H (by simp only [QA,QZ];omega) λO Q z R S=>?_)))
  have e:[(⟨⟨slot,0,xq.frm⟩,0⟩:StD)]++[⟨⟨slot,1,xq.to⟩,0⟩]=mls g q slot 0:=by
   rw [zEx,f,c,d,p];simp only [QS,JP];rw [Jh b.1,Jh x.1]
  rw [e] at z;exact⟨z.older,stp⟩
 ·have c:src q 1=[]:=by unfold src;rw [if_neg (by decide),if_neg (by omega)]
  have e:[(⟨⟨slot,0,xq.frm⟩,0⟩:StD)]=mls g q slot 0:=by
   rw [zEx,f,c,d];simp only [QS,JP,QE];rw [Jh b.1]
  rw [e] at t;exact⟨t.older,stp⟩
theorem zLY{F:RRow}{r:List EdN}{xq:RQ}{x:StD}{w:World}(E:GrIs g)(R:RwF w F g r)(Z:xq.kind=q.kind/\xq.rad=q.rad)(hm:mayX x)(hv:x.key.v<g.n):
  Sp PP 216 #[agg xq,agg F,agg x] w λv w'=>(∃v',v=.tuple #[v',.int .i64 0]/\Own w.heap.size 211 w' v' (nextL g q x))/\Stp w w':=by
 obtain⟨a8,a9⟩:=Z;obtain⟨⟨slot,dir,v⟩,d⟩:=x;have b0:=E.ok.n2;obtain⟨⟨m1,m2,m3,m4,m5⟩,m6,m7⟩:=hm;dsimp only at m1 m2 m3 m4 m5 m6 m7 hv;have l:∃p:Nat,v=(p:Int):=⟨v.toNat,by omega⟩;obtain⟨p,rfl⟩:=l;have Y:p<g.n:=by omega
 have l1:=R.off.len;have q1:=zAp g.n g.es;refine eN ?_;refine rbx λb1 w1 n1 B1=>rbx λb2 w2 n2 S=>rbx λb3 w3 n3 T=>rG S F (rcall (zB3 E (R.up (w':=w3))) ?_);rintro _ w4 ⟨rfl,e4⟩;refine rG T (⟨slot,dir,p⟩:KeyD) (ral λb5 w5 n5 z5=>rE z5 (⟨slot,dir,p⟩:KeyD) λU c f6 _=>?_);have c:Bk U b5 (enc (⟨slot,dir,p⟩:KeyD)) 209:=c;have s6:Stp w4 U:=n5.st f6;refine rld (B:=c) (v:=.int .i64 dir) rfl (iF (by omega) (rld (B:=c) (v:=.int .i64 dir) rfl (iF (by omega) (rld (B:=c) (v:=.int .i64 (p:Int)) rfl (iF (by omega) (rld (B:=c) (v:=.int .i64 (p:Int)) rfl (rX S rfl ?_)))))));refine rarE (y:=((g.n:Nat):Int)) (by omega) (by omega) (iF (by omega) (rld (B:=T) (v:=.int .i64 d) rfl (iF (by omega) (rld (B:=T) (v:=.int .i64 d) rfl (iF (by omega) (rX B1 rfl (ite (λh3=>?_) (λh3=>?_))))))))
 ·refine rld (B:=T) (v:=.int .i64 d) rfl (rX B1 rfl ?_);refine ite (λh4=>?_) (λh4=>?_)
  ·have V:nextL g q ⟨⟨slot,dir,p⟩,d⟩=[]:=by
    unfold nextL;exact if_pos (show q.kind=3/\q.rad<=d by omega)
   rw [V];exact⟨⟨_,rfl,Own.nil _ _ _⟩,stp⟩
  ·refine rG S F (rld (B:=c) (v:=.int .i64 (p:Int)) rfl (rcall (zHU (v:=p) E (R.up (w':=U)) Y) ?_));rintro _ C ⟨⟨v7,rfl,O7⟩,e7⟩;refine rld (B:=c) (v:=.int .i64 dir) rfl ?_
   have V:nextL g q ⟨⟨slot,dir,p⟩,d⟩=(nbL g dir p).map λv:Nat=>(⟨⟨slot,dir,v⟩,d+1⟩:StD):=by
    unfold nextL;rw [if_neg (show ¬(q.kind=3/\q.rad<=d) by omega)];rfl
   refine ite (λhd=>?_) (λhd=>?_)
   case' refine_1 =>
    refine rG S F (rld (B:=c) (v:=.int .i64 (p:Int)) rfl (rcall (zJl (v:=p) E (R.up (w':=C)) Y) ?_));rintro _ b ⟨⟨v8,rfl,o⟩,W⟩;have t:nbL g 1 p=nbL g dir p:=by rw [hd]
   case' refine_2 =>
    have o:=O7;have W:Stp C C:=stp;have l:∃b,b=C:=⟨_,rfl⟩;obtain⟨b,z⟩:=l;rw [<-z] at o W;subst z;have t:nbL g 0 p=nbL g dir p:=by rw [show dir=0 by omega]
   all_goals
    rw [t] at o;have f:(intsN (nbL g dir p)).length=(nbL g dir p).length:=by simp [intsN]
    have a0:=zCW E dir p;have l:=o.shape;obtain⟨la,lc,rfl⟩:=l;have a1:=c.lt;have a4:=n3.lt;have z8:=lz U b;have z3:=lz w3 b;refine cO 15 [] 13 14 (intsN (nbL g dir p)).length (λk v u=>Own b.heap.size 211 u v (((nbL g dir p).take k).map λv:Nat=>(⟨⟨slot,dir,v⟩,d+1⟩:StD))/\Stp b u) ⟨Own.nil _ _ _,stp⟩ ?_;rintro k v g9 u Z ⟨O,e⟩;refine ite (λhlt=>?_) (λa5=>?_)
    ·have A:k<(nbL g dir p).length:=by omega
     refine dD (λi=>b.heap.size<=i) (upF 17 0) λu1 e1=>tld (B:=c) (v:=.int .i64 slot) rfl (by omega) (tld (B:=c) (v:=.int .i64 dir) rfl (by omega) ?_)
     refine tix (o.sl.up (w':=u1)) (i:=k) (x:=((nbL g dir p)[k]:Int)) (by simp [intsN,A]) λb9 o9 A9 h9=>tload1 (A9.cell0 rfl) (λhd=>by
      obtain⟨b',X,_,h7⟩:=o.lt (by intro h0;rw [h0] at f;simp at f;omega);rw [h9] at X;cases X;omega) ?_
     refine tbuild (cs:=enc (⟨slot,dir,(nbL g dir p)[k]⟩:KeyD)) rfl (tld (B:=T) (v:=.int .i64 d) rfl (by omega) (rA (tbuild (cs:=enc (⟨⟨slot,dir,(nbL g dir p)[k]⟩,d+1⟩:StD)) rfl (bS (⟨⟨slot,dir,(nbL g dir p)[k]⟩,d+1⟩:StD) λa6 G H _ I=>⟨Fr.fr H.e,?_⟩))));refine rapp1 (u:=b) ⟨rfl,rfl⟩ (O.up (w':=G)) I (by simp;omega) λJ K L M a7=>⟨M.mono λi _ hi=>hi.1,?_⟩;have Q:Own b.heap.size 211 K J (((nbL g dir p).take (k+1)).map λv:Nat=>(⟨⟨slot,dir,v⟩,d+1⟩:StD)):=by rw [take_add A,QB];exact L
     exact rA ⟨rfl,by omega,Q,stp⟩
    ·have l:k=(intsN (nbL g dir p)).length:=by omega
     obtain rfl:=l;rw [f,Qg,<-V] at O;exact⟨⟨_,rfl,O.mono (lz w b)⟩,stp⟩
 ·refine rG S F (rld (B:=c) (v:=.int .i64 (p:Int)) rfl (rcall (zHU (v:=p) E (R.up (w':=U)) Y) ?_));rintro _ C ⟨⟨v7,rfl,O7⟩,e7⟩;refine rld (B:=c) (v:=.int .i64 dir) rfl ?_
  have V:nextL g q ⟨⟨slot,dir,p⟩,d⟩=(nbL g dir p).map λv:Nat=>(⟨⟨slot,dir,v⟩,d+1⟩:StD):=by
   unfold nextL;rw [if_neg (show ¬(q.kind=3/\q.rad<=d) by omega)];rfl
  refine ite (λhd=>?_) (λhd=>?_)
  case' refine_1 =>
   refine rG S F (rld (B:=c) (v:=.int .i64 (p:Int)) rfl (rcall (zJl (v:=p) E (R.up (w':=C)) Y) ?_));rintro _ b ⟨⟨v8,rfl,o⟩,W⟩;have t:nbL g 1 p=nbL g dir p:=by rw [hd]
  case' refine_2 =>
   have o:=O7;have W:Stp C C:=stp;have l:∃b,b=C:=⟨_,rfl⟩;obtain⟨b,z⟩:=l;rw [<-z] at o W;subst z;have t:nbL g 0 p=nbL g dir p:=by rw [show dir=0 by omega]
  all_goals
   rw [t] at o;have f:(intsN (nbL g dir p)).length=(nbL g dir p).length:=by simp [intsN]
   have a0:=zCW E dir p;have l:=o.shape;obtain⟨la,lc,rfl⟩:=l;have a1:=c.lt;have a4:=n3.lt;have z8:=lz U b;have z3:=lz w3 b;refine cO 15 [] 13 14 (intsN (nbL g dir p)).length (λk v u=>Own b.heap.size 211 u v (((nbL g dir p).take k).map λv:Nat=>(⟨⟨slot,dir,v⟩,d+1⟩:StD))/\Stp b u) ⟨Own.nil _ _ _,stp⟩ ?_;rintro k v g9 u Z ⟨O,e⟩;refine ite (λhlt=>?_) (λa5=>?_)
   ·have A:k<(nbL g dir p).length:=by omega
    refine dD (λi=>b.heap.size<=i) (upF 17 0) λu1 e1=>tld (B:=c) (v:=.int .i64 slot) rfl (by omega) (tld (B:=c) (v:=.int .i64 dir) rfl (by omega) ?_)
    refine tix (o.sl.up (w':=u1)) (i:=k) (x:=((nbL g dir p)[k]:Int)) (by simp [intsN,A]) λb9 o9 A9 h9=>tload1 (A9.cell0 rfl) (λhd=>by
     obtain⟨b',X,_,h7⟩:=o.lt (by intro h0;rw [h0] at f;simp at f;omega);rw [h9] at X;cases X;omega) ?_
    refine tbuild (cs:=enc (⟨slot,dir,(nbL g dir p)[k]⟩:KeyD)) rfl (tld (B:=T) (v:=.int .i64 d) rfl (by omega) (rA (tbuild (cs:=enc (⟨⟨slot,dir,(nbL g dir p)[k]⟩,d+1⟩:StD)) rfl (bS (⟨⟨slot,dir,(nbL g dir p)[k]⟩,d+1⟩:StD) λa6 G H _ I=>⟨Fr.fr H.e,?_⟩))));refine rapp1 (u:=b) ⟨rfl,rfl⟩ (O.up (w':=G)) I (by simp;omega) λJ K L M a7=>⟨M.mono λi _ hi=>hi.1,?_⟩;have Q:Own b.heap.size 211 K J (((nbL g dir p).take (k+1)).map λv:Nat=>(⟨⟨slot,dir,v⟩,d+1⟩:StD)):=by rw [take_add A,QB];exact L
    exact rA ⟨rfl,by omega,Q,stp⟩
   ·have l:k=(intsN (nbL g dir p)).length:=by omega
    obtain rfl:=l;rw [f,Qg,<-V] at O;exact⟨⟨_,rfl,O.mono (lz w b)⟩,stp⟩
theorem Own.bk{α:Type}[Enc α]{e:TypeId}{w:World}{c g:Nat}{l:List α}(O:Own B e w (.slice a n c) l)(d:l≠[])(f:Value.blk (.slice a n c)=some g):∃cs,Bk w g cs e:=by
 have o:=O.blk d;obtain⟨p,b,rfl,_,_,h,_⟩:=o;cases f;exact⟨b.toList,⟨by simpa using h⟩⟩
theorem Bk.ne{w:World}{b f:Nat}{cs c:List Value}{e l:TypeId}(k:Bk w b cs e)(o:Bk w f c l)(d:e≠l):b≠f:=by
 rintro rfl;have h:=k.h;rw [o.h] at h;cases h;exact d rfl
abbrev PlV (s:List UInt8) (A:Nat) (w:World) (v:Value) (w':World):Prop:=
 ((∃p A' v1 v2,RdsV rdPl s A p A'/\v=.tuple #[v1,v2,.int .i64 ((A':Nat):Int),.bool true]/\Own w.heap.size 3 w' v1 (intsN p.1)/\Own w.heap.size 9 w' v2 (p.2.map bsOf)) \/
  (rdPl (s.drop A)=none/\v=.tuple #[.slice none 0 0,.slice none 0 0,.int .i64 0,.bool false]))/\Stp w w'
theorem zOq{r t:List UInt8}(h:rdN r=some (n,t))(b:n<=8):rdWs r=rdMany rdT n t:=by rw [rdWs_n h,if_pos b]
theorem zKS{A:Nat}{w:World}(t:s.length<=4611686018427387904):Sp PP 99 #[txt s,.int .i64 (A:Int)] w (PlV s A w):=by
 refine eN ?_;refine rcall (zFz t) ?_;rintro v w1 ⟨⟨l,H,z,x,rfl,J⟩|⟨f,rfl⟩,Y⟩
 case' inr =>
  refine rcall (zAt (A:=0) t) ?_;rintro v p ⟨⟨n,C,c,rfl⟩|⟨d,rfl⟩,K⟩
  all_goals exact⟨.inr ⟨zK3 f,rfl⟩,stp⟩
 refine rcall (zAt (A:=H) t) ?_;rintro v p ⟨⟨n,C,c,rfl⟩|⟨d,rfl⟩,K⟩
 case' inr=>exact⟨.inr ⟨zBu x.2 (zIA d),rfl⟩,stp⟩
 refine ite (λL=>⟨.inr ⟨zBu x.2 (by rw [rdWs_n c.2,if_neg (by omega)]),rfl⟩,stp⟩) (λL=>?_);have I:=zOq c.2 (by omega)
 refine cP 16 [4,5,6,7] 12 14 15 n (λk z M u=>∃b o,b.length=k/\o<=s.length/\z=.int .i64 ((o:Nat):Int)/\Own p.heap.size 9 u M (b.map bsOf)/\preR b (rdMany rdT (n - k) (s.drop o))=rdMany rdT n (s.drop C)/\Stp p u)
  ⟨[],C,rfl,c.1,rfl,Own.nil _ _ _,by rw [zBP,JF],stp⟩ ?_
 rintro k _ v g u Z ⟨b,o,Q,E,rfl,O,F,e⟩;refine ite (λh=>?_) (λh=>?_)
 ·refine rcall (zDB (A:=o) t) ?_;rintro _ u1 ⟨⟨y,R,r,rfl⟩|⟨f,rfl⟩,e3⟩
  case' inr =>
   refine⟨.inr ⟨zBu x.2 ?_,rfl⟩,stp⟩;rw [I,<-F,show n - k=(n - (k+1))+1 by omega,zA7 f];rfl
  refine bS (bsOf y) λb4 S e4 _ T=>rapp1 (u:=p) ⟨rfl,rfl⟩ (O.up (w':=S)) T (by simp;omega) λU V W f5 s5=>?_;have G:Own p.heap.size 9 V U ((b++[y]).map bsOf):=by rw [QB];exact W
  refine rA ⟨rfl,by omega,b++[y],R,by simp [Q],r.1,rfl,G,?_,stp⟩;rw [<-F,show n - k=(n - (k+1))+1 by omega,zAF r.2]
 ·have X:k=n:=by omega
  obtain rfl:=X;have hd:rdWs (s.drop H)=some (b,s.drop o):=by rw [I,<-F,JN];simp [rdMany,preR]
  refine⟨.inl ⟨(l,b),o,z,v,⟨E,zDY x.2 hd⟩,rfl,J.up,O.older⟩,stp⟩
structure PbJ (w:World) (bz bg N:Nat) (u:World) (es:List EdN) (ea:Option Addr) (ec:Nat) (wa:Option Addr) (wc:Nat) (vs:List SV) (ws:List (List ByteArray)):Prop where
 z:Bk u bz (enc zGr) 77
 g:Bk u bg [.int .i64 (N:Int),.slice ea es.length ec,.slice wa vs.length wc] 77
 es:Own w.heap.size 159 u (.slice ea es.length ec) es
 wo:Own w.heap.size 38 u (.slice wa vs.length wc) vs
 rows:RowsO w.heap.size u vs ws
 st:Stp w u
theorem PbJ.up{w:World}{b c:Nat}{d:List EdN}{f:Option Addr}{h:Nat}{l:Option Addr}{o:Nat}{vs:List SV}{p:List (List ByteArray)}[Le u u'][Stp u u'](J:PbJ w b c N u d f h l o vs p):PbJ w b c N u' d f h l o vs p:=
 ⟨J.z.mv,J.g.mv,J.es.up,J.wo.up,J.rows.up,⟨J.st.e.t (lE u u')⟩⟩
structure PbrI (w:World) (s:List UInt8) (bz bg N A1 k:Nat) (u:World) (ps:List (List Nat×List (List UInt8))) (A:Nat) (ea:Option Addr) (ec:Nat) (wa:Option Addr) (wc:Nat) (vs:List SV):Prop extends PbJ w bz bg N u (edsOf 0 (rowsOf ps)) ea ec wa wc vs (wdsOf ps) where
 len:ps.length=k
 at':A<=s.length
 pre:preR ps (rdMany rdPl (N - k) (s.drop A))=rdMany rdPl N (s.drop A1)
 sm:∀p∈ps,PlSm p
open Classical in
theorem zKQ {s:List UInt8} {w:World} (hs:s.length<=1000000):Sp PP 47 #[txt s] w (ImgT s w):=by
 have hz:=zAd s;refine eN ?_;refine ral λo w1 n1 z1=>?_;have e8:=n1.b;have e9:=n1.s;have Z1:Bk w1 o (enc zGr) 77:=z1;have C:∀i,i=o->w.heap.size<=i:=by omega
 refine ite (λh2=>?_) (λh2=>?_)
 ·have c:rdI s=none:=zIy λ⟨t,ht⟩=>by rw [<-ht] at hz h2;simp at hz h2;omega
  have U:=Z1;refine rbuild (cs:=enc zGr) rfl (rE U zGr λE d O _=>?_);have d:Bk E o (enc zGr) 77:=d;refine rresG (B:=d) rfl ?_;exact⟨.inr ⟨img_no c,rfl⟩,⟨Fr.st Le.e O C⟩⟩
 refine rsslN (hi:=2) rfl (by omega) ?_;refine rsne (λa0=>?_) (λa1=>?_)
 ·have c:rdI s=none:=zIy λ⟨t,ht⟩=>a0 (by subst ht;exact(zBa _ 0 2).trans rfl);have U:=Z1;refine rbuild (cs:=enc zGr) rfl (rE U zGr λE d O _=>?_);have d:Bk E o (enc zGr) 77:=d;refine rresG (B:=d) rfl ?_;exact⟨.inr ⟨img_no c,rfl⟩,⟨Fr.st Le.e O C⟩⟩
 obtain⟨t,rfl⟩:∃t,s=119::103::t:=by
  have h3:=congrArg (λx:ByteArray=>x.data.toList) ((zBa s 0 2).symm.trans a1);have h4:s.take 2=[119,103]:=by simpa using h3
  refine⟨s.drop 2,?_⟩
  conv=>lhs;rw [<-JW 2 s,h4]
  rfl
 have hI:=rdI_eq (s:=119::103::t) (r:=t) rfl;refine rcall (zAt (A:=2) (by omega)) ?_;rintro _ w2 ⟨⟨N,A1,hr,rfl⟩|⟨c,rfl⟩,e2⟩
 case' inr =>
  have c:rdI (119::103::t)=none:=by rw [hI,show rdN t=none from c]
  have U:=Z1.mv (w:=w2);refine rbuild (cs:=enc zGr) rfl (rE U zGr λE d O _=>?_);have d:Bk E o (enc zGr) 77:=d;refine rresG (B:=d) rfl ?_;exact⟨.inr ⟨img_no c,rfl⟩,⟨Fr.st Le.e O C⟩⟩
 have a4:rdN t=some (N,(119::103::t).drop A1):=hr.2;rw [a4] at hI;refine ite (λb7=>?_) (λb7=>?_)
 ·have c:rdI (119::103::t)=none:=hI.trans (if_neg (by omega));have U:=Z1.mv (w:=w2);refine rbuild (cs:=enc zGr) rfl (rE U zGr λE d O _=>?_);have d:Bk E o (enc zGr) 77:=d;refine rresG (B:=d) rfl ?_;exact⟨.inr ⟨img_no c,rfl⟩,⟨Fr.st Le.e O C⟩⟩
 have W:rdI (119::103::t)=match rdMany rdPl N ((119::103::t).drop A1) with|some (ps,u)=>some (N,ps,u)|none=>none:=hI.trans (if_pos (by omega))
 clear hI
 have b8:(119::103::t)=[119,103]++numB N++(119::103::t).drop A1:=by
  have:=(zAv.1 a4).2
  conv=>lhs;rw [this]
  simp
 have f0:=hs;have f:∃s,s=119::103::t:=⟨_,rfl⟩;obtain⟨s,d1⟩:=f;rw [<-d1] at hs hz hr a4 W b8 ⊢;refine rbuild (cs:=[.int .i64 (N:Int),.slice none 0 0,.slice none 0 0]) rfl (ral λX w3 n3 z3=>?_);have f1:=n3.b;have f2:=n3.s;have f3:=lz w1 w2;have a5:∀i,i=X->w.heap.size<=i:=by omega
 have f5:¬X=o:=by omega
 have a8:¬o=X:=by omega
 refine rS z3 [.int .i64 (N:Int),.slice none 0 0,.slice none 0 0] (by intro u hu;simp at hu;rcases hu with rfl|rfl <;> rfl) λw4 G4 f4 _=>?_;have G4:Bk w4 X [.int .i64 (N:Int),.slice none 0 0,.slice none 0 0] 77:=G4;have Z4:=(Z1.mv (w:=w3)).fr f4 a8;have s4:Stp w w4:=⟨Fr.st (lE w w3) f4 a5⟩
 refine cO 9 [3] 5 8 N (λk va u=>∃ps A S T Y Z vs,PbrI w s o X N A1 k u ps A S T Y Z vs/\va=.int .i64 ((A:Nat):Int))
  ⟨[],A1,none,0,none,0,[],⟨⟨Z4,G4,Own.nil _ _ _,Own.nil _ _ _,⟨rfl,λi h=>absurd h (by simp)⟩,s4⟩,rfl,hr.1,by rw [zBP,JF],by simp⟩,rfl⟩ ?_
 rintro k _ gf u hk ⟨ps,A,S,T,Y,Z,vs,J,rfl⟩;have d2:=J.rows.1;rw [Qr,J.len] at d2;have Js:=J.st;refine ite (λhlt=>?_) (λf6=>?_)
 case' refine_2 =>
  have f:k=N:=by omega
  obtain rfl:=f;have hd:rdMany rdPl k (s.drop A1)=some (ps,s.drop A):=by rw [<-J.pre,JN];simp [rdMany,preR]
  rw [hd] at W;have b9:=zCo (rowsOf ps) 0 (by intro l hl;obtain⟨p,G,rfl⟩:=Qq.1 hl;exact(J.sm p G).1);rw [Qr,J.len] at b9
  have V:GrV u ⟨k,⟨S,(edsOf 0 (rowsOf ps)).length,T⟩,⟨Y,vs.length,Z⟩⟩ (grOf k ps) vs:=⟨rfl,J.es.sl,J.wo.sl,J.rows.v,⟨by show (edsOf 0 (rowsOf ps)).length<=1000000;omega,by omega,λl hl=>by obtain⟨p,G,rfl⟩:=Qq.1 hl;have:=(J.sm p G).2.1;simp;omega⟩,λl hl x hx=>by
   have f:=Qq.1 hl;obtain⟨p,G,rfl⟩:=f;have f:=Qq.1 hx;obtain⟨y,hy,rfl⟩:=f;have:=(J.sm p G).2.2 y hy;have h2:=zAd y;show (⟨y.toArray⟩:ByteArray).size<=_;omega⟩
  have f:=zB1 (B:=plB) (λr x t e=>zNL e) _ _ _ _ hd;obtain⟨d3,_⟩:=f;have Q:s=imK (grOf k ps) k++s.drop A:=by rw [imK_of J.len,Qp,<-d3];exact b8
  have a9:imgOf s=if s.drop A=[]/\GrIs (grOf k ps) then some (grOf k ps) else none:=by unfold imgOf;rw [W]
  have JG:=J.g;refine rG JG (⟨k,⟨S,(edsOf 0 (rowsOf ps)).length,T⟩,⟨Y,vs.length,Z⟩⟩:RGr) (rcall (zKR V) ?_);rintro _ H ⟨⟨hg,rfl⟩|⟨hg,rfl⟩,e1⟩
  all_goals
   have Z5:=J.z.mv (w:=H)
  case' inr =>
   refine iT (by decide) ?_;have c:imgOf s=none:=by rw [a9,if_neg λh=>hg h.2]
  case' inl =>
   refine iF (· rfl) (rsne (λa0=>?_) (λa1=>?_))
   case' refine_2 =>
    have hA:s.drop A=[]:=by
     have h3:imK (grOf k ps) k=s:=by
      have h3:=congrArg (λx:ByteArray=>x.data.toList) a1;simp at h3;exact h3
     have h4:=congrArg List.length Q;rw [h3,Qb] at h4;exact Qn (by omega)
    have G5:=JG.mv (w:=H);refine rG G5 (⟨k,⟨S,(edsOf 0 (rowsOf ps)).length,T⟩,⟨Y,vs.length,Z⟩⟩:RGr) (rE Z5 (⟨k,⟨S,(edsOf 0 (rowsOf ps)).length,T⟩,⟨Y,vs.length,Z⟩⟩:RGr) λu2 Z6 I _=>?_);have Z6:Bk u2 o (enc (⟨k,⟨S,(edsOf 0 (rowsOf ps)).length,T⟩,⟨Y,vs.length,Z⟩⟩:RGr)) 77:=Z6;refine rresG (B:=Z6) rfl ?_;exact⟨.inl ⟨grOf k ps,_,vs,by rw [a9,if_pos ⟨hA,hg⟩],rfl,⟨rfl,((J.es.up (w':=H)).frc I Z5).sl,((J.wo.up (w':=H)).frc I Z5).sl,((J.rows.up (w':=H)).frc I Z5).v,V.small,V.words⟩⟩,⟨Fr.st (lE w H) I C⟩⟩
   have c:imgOf s=none:=by
    rw [a9,if_neg];rintro⟨hA,_⟩;rw [hA,QE] at Q;exact a0 (congrArg (λz:List UInt8=>(⟨z.toArray⟩:ByteArray)) Q.symm)
  all_goals
   refine rbuild (cs:=enc zGr) rfl (rE Z5 zGr λE d O _=>?_);have d:Bk E o (enc zGr) 77:=d;refine rresG (B:=d) rfl ?_;exact⟨.inr ⟨c,rfl⟩,⟨Fr.st (lE w H) O C⟩⟩
 have c0:N - k=(N - (k+1))+1:=by omega
 have c1:rdPl (s.drop A)=none->rdI s=none:=λh=>(W.trans (by rw [<-J.pre,c0,zA7 h];rfl));refine rcall (zKS (A:=A) (by omega)) ?_;rintro _ H ⟨⟨p,A',v1,E,b0,rfl,O1,O2⟩|⟨c,rfl⟩,e1⟩
 case' inr =>
  have c:=c1 c;have U:=J.z.mv (w:=H);refine rbuild (cs:=enc zGr) rfl (rE U zGr λE d O _=>?_);have d:Bk E o (enc zGr) 77:=d;refine rresG (B:=d) rfl ?_;exact⟨.inr ⟨img_no c,rfl⟩,⟨Fr.st Le.e O C⟩⟩
 have c2:=zB4 b0.2;have d4:=zCo (rowsOf ps) 0 (by intro l hl;obtain⟨p,G,rfl⟩:=Qq.1 hl;exact(J.sm p G).1);rw [Qr,J.len] at d4;have c3:=Js.e.size;obtain⟨l,L⟩:=p;have O1:Own w.heap.size 3 H v1 (intsN l):=O1.mono c3;have O2:Own w.heap.size 9 H E (L.map bsOf):=O2.mono c3;have J1:=J.toPbJ.up (u':=H);have c4:=J.len;have c5:=J.pre;have d5:=J.sm;have f7:l.length<=4000:=c2.1;have f:=O1.shape;obtain⟨ra,rc,rfl⟩:=f;have b1:(intsN l).length=l.length:=by simp [intsN]
 refine cN 14 [] 13 (intsN l).length (λj u'=>∃S T,PbJ w o X N u' (edsOf 0 (rowsOf ps)++(l.take j).map λt=>⟨k,t⟩) S T Y Z vs (wdsOf ps)/\Own w.heap.size 3 u' (.slice ra (intsN l).length rc) (intsN l)/\Own w.heap.size 9 u' E (L.map bsOf))
  ⟨S,T,by simpa using J1,O1,O2⟩ ?_
 clear J J1 O1 O2 G4 Z4;rintro j f9 u2 hj ⟨b2,b3,J2,O1,O2⟩;have c8:=J2.g;have s2:=J2.st;refine ite (λe4=>?_) (λe7=>?_)
 case' refine_1 =>
  have c9:j<l.length:=by omega
  have d0:(edsOf 0 (rowsOf ps)++(l.take j).map λt=>(⟨k,t⟩:EdN)).length<=1000000:=by rw [Qb,Qr,Qm];omega
  have d6:edsOf 0 (rowsOf ps)++(l.take (j+1)).map (λt=>(⟨k,t⟩:EdN))=(edsOf 0 (rowsOf ps)++(l.take j).map λt=>(⟨k,t⟩:EdN))++[⟨k,l[j]⟩]:=by rw [take_add c9,QB,Qp];rfl
  refine dT (λi=>i=X\/ownD w.heap.size (.slice b2 (edsOf 0 (rowsOf ps)++(l.take j).map λt=>(⟨k,t⟩:EdN)).length b3) i) (oL [0,2,3,4,5,6,7] (.duo 1 (oL [8,9,10,11] .nil) 8 (.lone 1 (oL [9,10,11] .nil)))) λu3 e3=>?_;have J3:=J2.up (u':=u3);have b4:=J3.g;have O3:=O1.up (w':=u3);refine tixO rfl (i:=j) (x:=(l[j]:Int)) O3 (by simp [intsN,c9]) λg4 d7 g0 A4=>tload1 (A4.cell0 rfl) (λhd=>?_) ?_
  ·obtain⟨cs,K⟩:=O3.bk (by intro h0;rw [h0] at b1;simp at b1;omega) d7;rcases hd with hd|hd
   ·exact K.ne b4 (by decide) hd
   ·exact K.notOwn J3.es (by decide) hd
  refine tbuild (cs:=enc (⟨k,l[j]⟩:EdN)) rfl ?_;refine⟨?_,?_⟩
  case' refine_1 =>
   refine rX b4 rfl ⟨Fr.refl _ _,?_⟩;refine rbs1 (α:=EdN) ⟨k,l[j]⟩ rfl rfl (by decide) λb5 u5 e5 _ S5=>⟨Fr.fr e5.e,?_⟩
  case' refine_2 =>
   refine rbs1 (α:=EdN) ⟨k,l[j]⟩ rfl rfl (by decide) λb5 u5 e5 _ S5=>⟨Fr.fr e5.e,?_⟩;refine rX b4 rfl ⟨Fr.refl _ _,?_⟩
  all_goals
   have M:=J3.up (u':=u5);have d8:=M.g;have s5:=M.st;refine rapp1 (u:=w) ⟨rfl,rfl⟩ M.es S5 (by omega) λv6 u6 O6 I s6=>⟨I.mono λi _ hi=>.inr hi,?_⟩;have G6:=d8.fro M.es I;rw [<-d6] at O6;have f:=O6.shape;obtain⟨a6,c6,rfl⟩:=f;refine rS G6 [.slice a6 (edsOf 0 (rowsOf ps)++(l.take (j+1)).map λt=>(⟨k,t⟩:EdN)).length c6] (sv1 _ _ _) λu7 G7 F _=>⟨F.mono λi _ hi=>.inl hi,?_⟩
   have J7:PbJ w o X N u7 (edsOf 0 (rowsOf ps)++(l.take (j+1)).map λt=>(⟨k,t⟩:EdN)) a6 c6 Y Z vs (wdsOf ps):=
    ⟨(M.z.fro M.es I).fr F a8,G7,O6.frc F G6,(M.wo.fro M.es I).frc F G6,(M.rows.fro M.es I).frc F G6,⟨Fr.st (lE w u6) F a5⟩⟩
   have O7:=((O3.up (w':=u5)).fro M.es I).frc F G6;have W7:=((O2.up (w':=u5)).fro M.es I).frc F G6;exact rA ⟨rfl,by omega,a6,c6,J7,O7,W7⟩
 have f:j=(intsN l).length:=by omega
 obtain rfl:=f;rw [b1,Qg] at J2;have d0:(edsOf 0 (rowsOf ps)++l.map λt=>(⟨k,t⟩:EdN))=edsOf 0 (rowsOf ps++[l]):=by rw [zEl,JO,Qr,c4]
 rw [d0] at J2;have c8:=J2.g;have f:=O2.shape;obtain⟨sa,sc,rfl⟩:=f;refine rX c8 rfl (bS (⟨sa,(L.map bsOf).length,sc⟩:SV) λb6 u6 e6 _ S6=>?_);have R:=J2.up (u':=u6);have s6:=R.st;have d9:=R.g;refine rapp1 (u:=w) ⟨rfl,rfl⟩ R.wo S6 (by omega) λv7 u7 O7 F s7=>?_;have G7:=d9.fro R.wo F;have f:=O7.shape;obtain⟨a7,c7,rfl⟩:=f;refine rS G7 [.slice a7 (vs++[(⟨sa,(L.map bsOf).length,sc⟩:SV)]).length c7] (sv1 _ _ _) λu8 G8 f8 _=>?_;have e0:=(((O2.up (w':=u6)).fro R.wo F).frc f8 G7);have q1:rowsOf (ps++[(l,L)])=rowsOf ps++[l]:=by simp [rowsOf]
 have q2:wdsOf (ps++[(l,L)])=wdsOf ps++[L.map bsOf]:=by simp [wdsOf]
 have J8:PbJ w o X N u8 (edsOf 0 (rowsOf (ps++[(l,L)]))) b2 b3 a7 c7 (vs++[(⟨sa,(L.map bsOf).length,sc⟩:SV)]) (wdsOf (ps++[(l,L)])):=by
  rw [q1,q2];exact⟨(R.z.fro R.wo F).fr f8 a8,G8,(R.es.fro R.wo F).frc f8 G7,O7.frc f8 G7,RowsO.add ((R.rows.fro R.wo F).frc f8 G7) e0,⟨Fr.st (lE w u7) f8 a5⟩⟩
 refine rA ⟨rfl,by omega,ps++[(l,L)],A',b2,b3,a7,c7,vs++[(⟨sa,(L.map bsOf).length,sc⟩:SV)],⟨J8,?_,b0.1,?_,?_⟩,rfl⟩
 ·rw [Qb,c4];rfl
 ·rw [<-c5,c0,zAF b0.2]
 ·intro p G;have f:=Qf.1 G;rcases f with G|G
  ·exact d5 p G
  ·rw [Qc.1 G];exact c2
theorem zO8{l:List ByteArray}{x:ByteArray}(h:l.Pairwise ltW)(v:j<=l.length)(r:∀i (hi:i<l.length),i<j->ltW l[i] x)(t:∀hi:j<l.length,ltW x l[j]):(l.take j++x::l.drop j).Pairwise ltW:=by
 rw [VK,QM]
 have hd:∀y∈l.drop j,ltW x y:=λy d=>by
  have c:=QI.1 d;obtain⟨i,hi,rfl⟩:=c;rw [QR] at hi;rw [Yf];have f:=t (by omega);have c:=X0 i;rcases c with h0|h0
  ·subst h0;exact f
  ·exact ltW_tr _ _ _ f (QX.1 h j (j+i) (by omega) (by omega) (by omega))
 have o:∀y∈l.take j,ltW y x:=λy d=>by
  have c:=QI.1 d;obtain⟨i,hi,rfl⟩:=c;rw [Qm] at hi;rw [VI];exact r i (by omega) (by omega)
 refine⟨h.sublist (List.take_sublist _ _),⟨hd,h.sublist (List.drop_sublist _ _)⟩,λa p b e=>?_⟩;have c:=Ql.1 e;rcases c with rfl|e
 ·exact o a p
 ·exact ltW_tr _ _ _ (o a p) (hd b e)
theorem zKP{c:Nat}{l:List ByteArray}{w:World}(h:SlF w (.slice a n c) l)(hn:l.length<=100000):
  Sp PP 102 #[.slice a n c] w λv w'=>(∃b,Own w.heap.size 9 w' v b/\b.Pairwise ltW/\(∀s,s∈b↔s∈l)/\b.length<=l.length)/\Stp w w':=by
 have f:=h.len;obtain rfl:=f;refine eN ?_;refine cO 7 [5,6] 3 4 l.length (λk v u=>(∃b,Own w.heap.size 9 u v b/\b.Pairwise ltW/\(∀s,s∈b↔s∈l.take k)/\b.length<=k)/\Stp w u) ⟨⟨[],Own.nil _ _ _,.nil,by simp,by simp⟩,stp⟩ ?_;rintro k v g u hk ⟨⟨b,O,H,y,I⟩,e⟩;have f:=O.shape;obtain⟨oa,oc,rfl⟩:=f;refine ite (λhlt=>?_) (λS=>?_)
 ·have p:k<l.length:=by omega
  have z:=take_add p;refine cntJ TBok 2 7 [] 5 b.length (λj u'=>(∀i (hi:i<b.length),i<j->ltW b[i] l[k])/\Stp u u') (λj u'=>j<=b.length/\(∀i (hi:i<b.length),i<j->ltW b[i] l[k])/\(∀hi:j<b.length,¬ltW b[j] l[k])/\Stp u u') rfl rfl ⟨by omega,stp⟩ ?_ ?_
  ·rintro j g u' t ⟨A,T⟩;refine dQ 15 λQ e1=>ite (λU=>?_) (λU=>⟨j,rfl,t,A,λh=>absurd h (by omega),stp⟩);have C:j<b.length:=by omega
   refine tix (O.sl.up (w':=Q)) (x:=b[j]) (by simp) λE F o _=>tload1 (o.cell0 rfl) nf (tix (h.up (w':=Q)) (x:=l[k]) (by simp) λE F o _=>tload1 (o.cell0 rfl) nf (tslt (λJ=>?_) (λJ=>⟨j,rfl,t,A,λ_=>J,stp⟩)));refine rA ⟨rfl,C,λi hi V=>?_,stp⟩;have f:=QH i j;rcases f with G|G
   ·exact A i hi G
   ·have f:i=j:=by omega
    obtain rfl:=f;exact J
  rintro j g u' ⟨t,A,K,T⟩;refine dQ 15 λr e2=>ite (λG=>?pos2) (λG=>?neg2)
  case' pos2 =>
   have C:j<b.length:=by omega
   refine tix (O.sl.up (w':=r)) (x:=b[j]) (by simp) λE F o _=>tload1 (o.cell0 rfl) nf (tix (h.up (w':=r)) (x:=l[k]) (by simp) λE F o _=>tload1 (o.cell0 rfl) nf (tseq (λL=>?same) (λL=>?new)))
   case same =>
    refine rA ⟨rfl,p,⟨b,O.up,H,λs=>?_,by omega⟩,stp⟩;rw [z,Qf,Qc,y];constructor
    ·exact .inl
    ·rintro(d|d)
     ·exact d
     ·rw [d,<-L,<-y];exact Qa _
   have hgt:∀hi:j<b.length,ltW l[k] b[j]:=λhi=>by
    have f:=zFr b[j] l[k];rcases f with d|d|d
    ·exact absurd d (K hi)
    ·exact absurd d L
    ·exact d
  case' neg2 =>
   have hgt:∀hi:j<b.length,ltW l[k] b[j]:=λhi=>absurd hi (by omega)
  all_goals
   refine rsl none (some j) (O.sl.up (w':=r)) (by simp) (by simpa using t) λW X Y=>?_;refine rapp (u:=r) ⟨rfl,rfl⟩ (Own.nil _ 9 _) Y (by simp;omega) λv3 Z O3 f3 s3=>rix (h.up (w':=Z)) (x:=l[k]) (by simp) λE F o=>rload1 (o.cell0 rfl) (rbs1 l[k] rfl rfl (by decide) λb4 w4 e4 _ S4=>rapp1 (u:=r) ⟨rfl,rfl⟩ O3.up S4 (by simp;omega) λv5 w5 O5 f5 s5=>rsl (some j) none (O.sl.up (w':=w5)) (by simpa using t) (by simp) λW X S6=>?_);refine rapp (u:=r) ⟨rfl,rfl⟩ O5 S6 (by simp;omega) λv7 w7 R f7 s7=>?_
   have O8:Own r.heap.size 9 w7 v7 (b.take j++l[k]::b.drop j):=by
    rw [zCX,zBB] at R;simpa using R
   refine rA ⟨rfl,p,⟨_,O8.older,zO8 H t A hgt,λs=>?_,by simp;omega⟩,stp⟩;rw [z,Qf,Ql,Qf,Qc,<-y];have M:s∈b↔s∈b.take j\/s∈b.drop j:=by rw [<-Qf,JW]
   rw [M];constructor
   ·rintro(d|d|d)
    ·exact .inl (.inl d)
    ·exact .inr d
    ·exact .inl (.inr d)
   ·rintro((d|d)|d)
    ·exact .inl d
    ·exact .inr (.inr d)
    ·exact .inr (.inl d)
 ·have f:k=l.length:=by omega
  obtain rfl:=f;rw [Qg] at y;exact⟨⟨b,O,H,y,I⟩,stp⟩
theorem zGD{c:Nat}{z:List ByteArray}{ps:List RPo}{s:ByteArray}{w:World}(h:SlF w (.slice a n c) ps)(M:PosM w g z ps)(E:GrIs g)(O:ps.length<=100000):
  Sp PP 365 #[.slice a n c,.string s] w λv w'=>Own w.heap.size 3 w' v (plOf g s)/\Stp w w':=by
 have F:=E.ok.n2;have d:=h.len;obtain rfl:=d;have H:=zCf g s;refine eN ?_;refine cN 6 [4] 5 ps.length (λk u=>(∀x∈z.take k,x≠s)/\Stp w u) ⟨by simp,stp⟩ ?_;rintro k G u Q ⟨b,e⟩;refine ite (λhlt=>?_) (λI=>?_)
 ·have l:k<ps.length:=by omega
  have o:k<z.length:=by have:=M.len;omega
  have d:=M.at' k l o;obtain⟨p,r⟩:=d;refine rix (h.up (w':=u)) (x:=ps[k]) (by simp) λJ K A=>rload1 (A.cell 0 rfl) (rseq (λy=>?_) (λy=>?_))
  ·rw [p] at y;rw [y] at r;refine rix (h.up (w':=u)) (x:=ps[k]) (by simp) λJ K A=>rload1 (A.cell 1 rfl) (rcall (zHT (r.up (w':=u)) (by omega)) ?_);rintro v R ⟨L,S⟩;exact⟨L.mono (lz w u),stp⟩
  ·refine rA ⟨rfl,l,λt f=>?_,stp⟩;rw [take_add o] at f;have d:=Qf.1 f;rcases d with f|f
   ·exact b t f
   ·rw [Qc.1 f,<-p];exact y
 ·have d:k=ps.length:=by omega
  obtain rfl:=d;rw [M.len,Qg] at b;rw [zJj E.nw λC=>b s ((M.all s).2 C) rfl];exact⟨Own.nil _ _ _,e⟩
theorem zLS{c y:Nat}{l m:List Int}{w:World}(h:SlF w (.slice a n c) l)(z:SlF w (.slice a2 n2 y) m)(Q:l.length<=1000000)(A:m.length<=1000000):
  Sp PP 366 #[.slice a n c,.slice a2 n2 y] w λv w'=>Own w.heap.size 3 w' v (risingL (l.filter λx=>decide (x∈m)))/\Stp w w':=by
 have d:=h.len;obtain rfl:=d;refine eN ?_;refine cO 7 [] 5 6 l.length (λk v u=>Own w.heap.size 3 u v ((l.take k).filter λx=>decide (x∈m))/\Stp w u) ⟨Own.nil _ _ _,stp⟩ ?_;rintro k v g u R ⟨O,e⟩;refine ite (λhlt=>?_) (λC=>?_)
 ·have b:k<l.length:=by omega
  have f:=Qv (λx=>decide (x∈m)) (l.take k);rw [Qm] at f;refine rix (h.up (w':=u)) (x:=l[k]) (by simp) λE F p=>rload1 (p.cell0 rfl) (rcall (zJm (x:=l[k]) (z.up (w':=u)) A) ?_);rintro _ o ⟨⟨rfl,r⟩|⟨rfl,r⟩,G⟩
  ·refine rix (h.up (w':=o)) (x:=l[k]) (by simp) λE F p=>rload1 (p.cell0 rfl) (rbs1 l[k] rfl rfl (by decide) λS H T _ I=>rapp1 (u:=w) ⟨rfl,rfl⟩ (O.up (w':=H)) I (by omega) λJ K L U V=>?_);have t:Own w.heap.size 3 K J ((l.take (k+1)).filter λx=>decide (x∈m)):=by rw [take_add b,QV];simpa [r] using L
   exact rA ⟨rfl,b,t,stp⟩
  ·have t:Own w.heap.size 3 o v ((l.take (k+1)).filter λx=>decide (x∈m)):=by rw [take_add b,QV];simpa [r] using O.up (w':=o)
   exact rA ⟨rfl,b,t,stp⟩
 ·have d:k=l.length:=by omega
  obtain rfl:=d;rw [Qg] at O;have f:=Qv (λx=>decide (x∈m)) l;have d:=O.shape;obtain⟨oa,oc,rfl⟩:=d;refine rcall (zEZ O.sl (by omega)) ?_;rintro v o ⟨M,G⟩;exact⟨M.mono (lz w u),stp⟩
theorem zNB{c E:Nat}{R:List ByteArray}{ps:List RPo}{q:List ByteArray}{w:World}(h:SlF w (.slice a n c) ps)(M:PosM w g R ps)(o:GrIs g)(F:ps.length<=100000)(p:SlF w (.slice a2 n2 E) q)(d:q≠[])(S:q.length<=1000000):
  Sp PP 305 #[.slice a n c,.slice a2 n2 E] w λv w'=>(∃G,v=.tuple #[G,.int .i64 0]/\Own w.heap.size 3 w' G (placesL g q))/\Stp w w':=by
 have b:=h.len;obtain rfl:=b;have b:=p.len;obtain rfl:=b;have T:=o.ok.n2;have r:0<q.length:=JI.2 d;refine eN ?_;refine iF (by omega) (rix (i:=0) p (x:=q[0]) (by simp) λU V t=>rload1 (t.cell0 rfl) (rcall (zGD (s:=q[0]) h M o F) ?_));rintro _ w1 ⟨H,e1⟩;have W:=zCf g q[0];have b:=H.shape;obtain⟨fa,fc,rfl⟩:=b;refine rcall (zEZ H.sl (by omega)) ?_;rintro _ w2 ⟨X,e2⟩;have f:=zGK (plOf g q[0]);have Y:=zED (plOf g q[0])
 refine loop2 TBok 8 [] 6 7 (λI v u=>∃(k:Nat) (L:List Int),v=.int .i64 ((k:Int)+1)/\k+1<=q.length/\Own w.heap.size 3 u I L/\L.Pairwise (· < ·)/\L.length<=200/\(∀x,x∈L↔∀s∈q.take (k+1),x∈plOf g s)/\Stp w u) (λ_ v _=>q.length+1 - (Go.RowKit.intOf v).toNat) rfl
  ⟨0,_,rfl,by omega,X.mono (lz w w1),f.1,by omega,λx=>?_,stp⟩ ?_
 ·rw [f.2,take_add r];simp
 rintro I _ gf u ⟨k,L,rfl,hk,O,Z,hl,y,e⟩;refine ite (λhlt=>?_) (λa0=>?_)
 ·have z:k+1<q.length:=by omega
  refine rix (i:=k+1) (p.up (w':=u)) (x:=q[k+1]) (by simp) λU V t=>rload1 (t.cell0 rfl) (rcall (zGD (s:=q[k+1]) (h.up (w':=u)) (M.up (w':=u)) o F) ?_);rintro _ J ⟨K,e3⟩;have hp:=zCf g q[k+1];have b:=O.shape;obtain⟨oa,oc,rfl⟩:=b;have b:=K.shape;obtain⟨ga,gc,rfl⟩:=b;refine rcall (zLS (O.sl.up (w':=J)) K.sl (by omega) (by omega)) ?_;rintro _ u2 ⟨O4,e4⟩;have Q:=zGK (L.filter λx=>decide (x∈plOf g q[k+1]));have a1:=zED (L.filter λx=>decide (x∈plOf g q[k+1]));have a4:=Qv (λx=>decide (x∈plOf g q[k+1])) L;refine rA ⟨⟨k+1,_,rfl,by omega,O4.mono (lz w J),Q.1,by omega,λx=>?_,stp⟩,?_⟩
  ·rw [Q.2,take_add z,QC,y];simp only [decide_eq_true_eq,Qf,Qc];constructor
   ·rintro⟨l,h2⟩ s (A|A)
    ·exact l s A
    ·rw [A];exact h2
   ·exact λl=>⟨λs hs=>l s (.inl hs),l _ (.inr rfl)⟩
  ·show q.length+1 - (((k:Int)+1+1)).toNat<q.length+1 - (((k:Int)+1)).toNat;omega
 ·have C:k+1=q.length:=by omega
  rw [C,Qg] at y;have hL:=zHO Z d y;rw [hL] at O;exact⟨⟨_,rfl,O⟩,e⟩
theorem fJ_len(g:GrD)(k j:Nat)(s:ByteArray):(fJ g k j s).length<=k+1:=by
 have:=fK_len g k s;unfold fJ;rw [Qb];split <;> simp <;> omega
theorem po_one(s:ByteArray)(a:Option Addr)(n c:Nat):∀u∈[Value.string s,Value.slice a n c],u.oneCell'=true:=by intro u b;simp at b;rcases b with rfl|rfl <;> rfl
theorem zLT{x:RGr}{vs:List SV}{w:World}(V:GrV w x g vs)(K:GrIs g):
  Sp PP 49 #[agg x] w λv w'=>(∃a c ps d,v=.tuple #[.slice a ps.length c,.int .i64 0]/\PosM w' g d ps/\ps.length<=2000/\Own w.heap.size 170 w' (.slice a ps.length c) ps/\∀i (h:i<ps.length) (C:i<d.length),Own w.heap.size 3 w' ps[i].pl.v (plOf g d[i]))/\Stp w w':=by
 have hn:=V.n;have c0:=V.rows.1;have c1:=K.ok.n2;have c2:=K.nw;refine eN ?_;refine rbx λb w1 n1 L=>rG L x (rcall (zFA (V.up (w':=w1))) ?_);rintro _ w2 ⟨⟨rfl,_⟩|⟨rfl,h⟩,e2⟩
 case' inr=>exact absurd K h
 refine cO 6 [] 4 5 g.n (λk v u=>(∃E',Own w1.heap.size 9 u v E'/\(∀s,s∈E'↔∃l∈g.ws.take k,s∈l)/\E'.length<=8*k)/\Stp w1 u) ⟨⟨[],Own.nil _ _ _,by simp,by simp⟩,stp⟩ ?_;rintro k v gf u hk ⟨⟨ev,O,hm,c3⟩,e⟩;refine rld (B:=L) (v:=.int .i64 (g.n:Int)) (by rw [<-hn];rfl) (ite (λhlt=>?_) (λc4=>?_))
 ·have F:k<vs.length:=by omega
  have o:k<g.ws.length:=by omega
  have R:=V.rows.2 k F o;have h8:=(K.word _ (Qa o)).1;refine rX L rfl (rix (V.ws.up (w':=u)) (x:=vs[k]) (by simp) λb2 o2 Q=>rload1 (Q.cell0 rfl) (rapp (u:=w1) ⟨rfl,rfl⟩ O (R.up (w':=u)) (by omega) λv3 w3 O3 f3 s3=>rA ⟨rfl,by omega,⟨_,O3,λs=>?_,by rw [Qb];omega⟩,stp⟩));rw [Qf,hm,take_add o];constructor
  ·rintro(⟨l,t,G⟩|t)
   ·exact⟨l,QN _ t,G⟩
   ·exact⟨_,JJ _ (Qc.2 rfl),t⟩
  ·rintro⟨l,t,G⟩;have f:=Qf.1 t;rcases f with t|t
   ·exact .inl ⟨l,t,G⟩
   ·rw [Qc.1 t] at G;exact .inr G
 have f:k=g.n:=by omega
 obtain rfl:=f;rw [Qj (by omega)] at hm;have f:=O.shape;obtain⟨oa,oc,rfl⟩:=f;refine rcall (zKP O.sl (by omega)) ?_;rintro _ E ⟨⟨d,OW,hr,a4,c5⟩,e4⟩;have S:∀s,s∈d↔∃l∈g.ws,s∈l:=λs=>(a4 s).trans (hm s);have f:=OW.shape;obtain⟨wa,wc,rfl⟩:=f;refine cO 9 [] 7 8 d.length (λi v u'=>(∃ps:List RPo,Own E.heap.size 170 u' v ps/\ps.length=i/\∀j (h:j<ps.length) (C:j<d.length),ps[j].word=d[j]/\Own E.heap.size 3 u' ps[j].pl.v (plOf g d[j]))/\Stp E u') ⟨⟨[],Own.nil _ _ _,rfl,λj h=>absurd h (by simp)⟩,stp⟩ ?_;rintro i v c6 A hi ⟨⟨ps,OP,H,hP⟩,e5⟩;refine ite (λb1=>?_) (λb4=>?_)
 case' refine_2 =>
  have f:i=d.length:=by omega
  obtain rfl:=f;have f:=OP.shape;obtain⟨pa,pc,rfl⟩:=f;have z:=lz w E;exact⟨⟨pa,pc,ps,d,rfl,⟨hr,S,H,λj h C=>⟨(hP j h C).1,(hP j h C).2.sl⟩⟩,by omega,OP.mono z,λj h C=>(hP j h C).2.mono z⟩,stp⟩
 have a5:i<d.length:=by omega
 refine rix (OW.sl.up (w':=A)) (x:=d[i]) (by simp) λb3 o3 T=>rload1 (T.cell0 rfl) (rbuild (cs:=[.string d[i],.slice none 0 0]) rfl (ral λU w5 n5 z5=>?_));have c7:=n5.b;have c8:=n5.s;refine rS z5 [.string d[i],.slice none 0 0] (po_one _ _ _ _) λw6 P6 f6 _=>?_;have P6:Bk w6 U [.string d[i],.slice none 0 0] 170:=P6;have s6:Stp A w6:=⟨Fr.st Le.e f6 λj hj=>by subst hj;exact n5.lo⟩;have a6:∀j,j=U->A.heap.size<=j:=by omega
 refine cN 11 [] 10 g.n (λk u'=>(∃p r,Bk u' U [.string d[i],.slice p (fK g k d[i]).length r] 170/\Own A.heap.size 3 u' (.slice p (fK g k d[i]).length r) (fK g k d[i]))/\Stp A u') ⟨⟨none,0,P6,Own.nil _ _ _⟩,s6⟩ ?_;rintro k c9 u3 d0 ⟨⟨p,r,W,X⟩,s3⟩;refine rld (B:=L) (v:=.int .i64 (g.n:Int)) (by rw [<-hn];rfl) (ite (λb5=>?_) (λb6=>?_))
 case' refine_2 =>
  have f:k=g.n:=by omega
  obtain rfl:=f;rw [fK_all] at W X;refine rG W (⟨d[i],⟨p,(plOf g d[i]).length,r⟩⟩:RPo) (bS (⟨d[i],⟨p,(plOf g d[i]).length,r⟩⟩:RPo) λb7 M e7 _ S7=>?_);have I:=OP.up (w':=M);refine rapp1 (u:=E) ⟨rfl,rfl⟩ I S7 (by omega) λv8 Y Z f8 s8=>?_;have Y8:Own E.heap.size 3 Y (.slice p (plOf g d[i]).length r) (plOf g d[i]):=((X.up (w':=M)).mono (lz E A)).fro I f8
  have a0:∃qs:List RPo,Own E.heap.size 170 Y v8 qs/\qs.length=i+1/\∀j (h:j<qs.length) (C:j<d.length),qs[j].word=d[j]/\Own E.heap.size 3 Y qs[j].pl.v (plOf g d[j]):=by
   refine⟨ps++[⟨d[i],⟨p,(plOf g d[i]).length,r⟩⟩],Z,by simp [H],λj h C=>?_⟩;have f:=QH j ps.length;rcases f with t|t
   ·rw [List.getElem_append_left t];have f:=hP j t C;obtain⟨G,h3⟩:=f;exact⟨G,(h3.up (w':=M)).fro I f8⟩
   ·obtain rfl:j=ps.length:=by simp at h;omega
    rw [List.getElem_append_right (Qe _)];simp only [JN,Vb];subst H;exact⟨rfl,Y8⟩
  exact rA ⟨rfl,a5,a0,stp⟩
 have F:k<vs.length:=by omega
 have o:k<g.ws.length:=by omega
 have R:=V.rows.2 k F o;have a7:=R.len;have h8:=(K.word _ (Qa o)).1;have a1:g.ws.getD k []=g.ws[k]:=by rw [Qk,Qd o];rfl
 have a8:=ltW_nd (K.wr _ (Qa o));rw [<-zCV] at W X;refine cnt TBok 12 [] 11 g.ws[k].length (λj u'=>(∃p r,Bk u' U [.string d[i],.slice p (fJ g k j d[i]).length r] 170/\Own A.heap.size 3 u' (.slice p (fJ g k j d[i]).length r) (fJ g k j d[i]))/\Stp A u') rfl rfl ⟨⟨p,r,W,X⟩,s3⟩ ?_;clear W X;rintro j d1 u4 d2 ⟨⟨p,r,P4,Y4⟩,s4⟩;refine rX L rfl (rix (V.ws.up (w':=u4)) (x:=vs[k]) (by simp) λb2 o2 Q=>rload1 (Q.cell0 rfl) (ite (λb8=>?_) (λb9=>?_)))
 case' refine_2 =>
  have f:j=g.ws[k].length:=by omega
  obtain rfl:=f;rw [fJ_end (by rw [a1])] at P4 Y4;exact rA ⟨rfl,by omega,⟨p,r,P4,Y4⟩,stp⟩
 have J:j<g.ws[k].length:=by omega
 have y:=congrFun (zMD a1 J a8) d[i];have d3:=fJ_len g k j d[i];refine dQ 13 λu5 d4=>tX L rfl nf (tix (V.ws.up (w':=u5)) (x:=vs[k]) (by simp) λb2 o2 Q _=>tload1 (Q.cell0 rfl) nf (tix (R.up (w':=u5)) (x:=g.ws[k][j]) (by simp) λb3 o3 T _=>tload1 (T.cell0 rfl) nf (tix (OW.sl.up (w':=u5)) (x:=d[i]) (by simp) λb3 o3 T _=>tload1 (T.cell0 rfl) nf (tseq (λa9=>?_) (λb0=>?_)))))
 ·rw [if_pos a9.symm] at y;have P5:=P4.mv (w:=u5);refine rX P5 rfl (bS (k:Int) λb7 M e7 _ S7=>?_);have Y7:=Y4.up (w':=M);refine rapp1 (u:=A) ⟨rfl,rfl⟩ Y7 S7 (by omega) λv8 Y Z f8 s8=>?_;have P8:=(P5.mv (w:=M)).fro Y7 f8;rw [<-y] at Z;have f:=Z.shape;obtain⟨za,zc,rfl⟩:=f;refine rS P8 [.slice za (fJ g k (j+1) d[i]).length zc] (sv1 _ _ _) λw9 P9 f9 _=>?_;have P9:Bk w9 U [.string d[i],.slice za (fJ g k (j+1) d[i]).length zc] 170:=P9;exact rA ⟨rfl,J,⟨za,zc,P9,Z.frc f9 P8⟩,⟨Fr.st (lE A Y) f9 a6⟩⟩
 ·rw [if_neg (λh=>b0 h.symm)] at y;exact rA ⟨rfl,J,⟨p,r,by rw [y];exact P4.mv,by rw [y];exact Y4.up⟩,stp⟩
theorem zFC{v n:Int}{w:World}:Sp PP 133 #[.int .i64 v,.int .i64 n] w λr w'=>Tells (0<=v/\v<n) r/\w'=w:=by
 refine eN ?_;refine ite (λb=>?_) (λb=>⟨.f (λh=>b h.1),rfl⟩);exact ite (λc=>⟨.t ⟨b,c⟩,rfl⟩) (λc=>⟨.f (λh=>c h.2),rfl⟩)
theorem zFB{xq:RQ}{n:Int}{w:World}(V:QyV w xq q)(hl:q.words.length<=1000000)(S:∀s∈q.words,s.size<=1000000):
  Sp PP 69 #[agg xq,.int .i64 n] w λv w'=>((QyIs q n/\v=.int .i64 0)\/(¬QyIs q n/\v=.int .i64 180))/\Stp w w':=by
 obtain⟨I,J,K,L,M,O⟩:=V;obtain⟨x1,x2,x3,⟨Q,T,R⟩,x4,x5⟩:=xq;simp only at I J K M O;subst I J K M O;have C:T=q.words.length:=L.len;subst C;have y:agg (⟨q.kind,q.frm,q.to,⟨Q,q.words.length,R⟩,q.rad,q.most⟩:RQ)=.agg #[.int .i64 q.kind,.int .i64 q.frm,.int .i64 q.to,.slice Q q.words.length R,.int .i64 q.rad,.int .i64 q.most]:=rfl;rw [y];refine eN ?_;refine rbx λbq w1 n1 b=>?_;have f:¬QyIs q n->∀u:World,Stp w u->((QyIs q n/\Value.int .i64 180=.int .i64 0)\/(¬QyIs q n/\Value.int .i64 180=.int .i64 180))/\Stp w u:=λh u s=>⟨.inr ⟨h,rfl⟩,s⟩;have z:QyIs q n->∀u:World,Stp w u->((QyIs q n/\Value.int .i64 0=.int .i64 0)\/(¬QyIs q n/\Value.int .i64 0=.int .i64 180))/\Stp w u:=λh u s=>⟨.inl ⟨h,rfl⟩,s⟩;refine rX b rfl (ite (λU=>f (λh=>by have:=h.1;omega) _ stp) (λU=>?_));refine rX b rfl (ite (λW=>f (λh=>by have:=h.1;omega) _ stp) (λW=>?_));refine rX b rfl (rcall zFC ?_);rintro _ w1 ⟨⟨rfl,A⟩|⟨rfl,A⟩,rfl⟩
 case' inr=>exact f (λh=>A h.2.1) _ stp
 refine rX b rfl (ite (λE=>?_) (λE=>?_))
 ·refine rX b rfl (rcall zFC ?_);rintro _ _ ⟨⟨rfl,F⟩|⟨rfl,F⟩,rfl⟩
  case' inr=>exact f (λh=>F (h.2.2.1 (by omega))) _ stp
  refine rX b rfl ?_;exact ite (λ_=>z ⟨by omega,A,λ_=>F,λh=>absurd h (by omega)⟩ _ stp) (λG=>absurd E G)
 refine rX b rfl (iF E ?_);have c:q.kind=3:=by omega
 refine rX b rfl (ite (λh=>f (λd=>by have:=d.2.2.2 c;omega) _ stp) (λh7=>?_));refine rX b rfl (ite (λh=>f (λd=>by have:=d.2.2.2 c;omega) _ stp) (λh8=>?_));refine rX b rfl (ite (λh=>f (λd=>by have:=d.2.2.2 c;omega) _ stp) (λh9=>?_));refine rX b rfl (ite (λh=>f (λd=>by have:=d.2.2.2 c;omega) _ stp) (λX=>?_));refine rX b rfl (ite (λh=>f (λd=>by have:=d.2.2.2 c;omega) _ stp) (λY=>?_));refine rX b rfl (ite (λh=>f (λd=>by have:=d.2.2.2 c;omega) _ stp) (λZ=>?_));refine cN 6 [4] 5 q.words.length (λk u=>(∀s∈q.words.take k,WordB s)/\Stp w1 u) ⟨by simp,stp⟩ ?_;rintro k g u hk ⟨l,e⟩;refine rX b rfl (ite (λhlt=>?_) (λa0=>?_))
 ·have o:k<q.words.length:=by omega
  refine rX b rfl (rix (L.up (w':=u)) (x:=q.words[k]) (by simp) λb2 o2 A2=>rload1 (A2.cell0 rfl) (rcall (zGB (S _ (Qa o))) ?_));rintro _ u1 ⟨⟨rfl,p⟩|⟨rfl,p⟩,e1⟩
  case' inr=>exact f (λd=>p ((d.2.2.2 c).2.2.2 _ (Qa o))) _ stp
  refine rA ⟨rfl,o,λt r=>?_,stp⟩;rw [take_add o] at r;have H:=Qf.1 r;rcases H with r|r
  ·exact l t r
  ·rw [Qc.1 r];exact p
 ·have H:k=q.words.length:=by omega
  obtain rfl:=H;rw [Qg] at l;exact z ⟨by omega,A,λh=>absurd h (by omega),λ_=>⟨by omega,by omega,by omega,l⟩⟩ _ stp
theorem zHY{c:Nat}{M:List StD}{d:Int}{w:World}(h:SlF w (.slice a n c) M)(E:M.length<=1000000):Sp PP 304 #[.slice a n c,.int .i64 d] w λv w'=>v=.bool (hasDir M d)/\Stp w w':=by
 have l:=h.len;obtain rfl:=l;refine eN ?_;refine cN 6 [4] 5 M.length (λk u=>(∀y∈M.take k,y.key.dir≠d)/\Stp w u) ⟨by simp,stp⟩ ?_;rintro k g u o ⟨p,e⟩;refine ite (λhlt=>?_) (λt=>?_)
 ·have f:k<M.length:=by omega
  refine rix (h.up (w':=u)) (x:=M[k]) (by simp) λF G z=>rload1 (z.cell 1 rfl) (ite (λr=>?_) (λr=>?_))
  ·have o:hasDir M d=true:=Vi.2 ⟨_,Qa f,decide_eq_true r⟩;exact⟨by rw [o];rfl,stp⟩
  ·refine rA ⟨rfl,f,λy b=>?_,stp⟩;rw [take_add f] at b;have l:=Qf.1 b;rcases l with b|b
   ·exact p y b
   ·rw [Qc.1 b];exact r
 ·have l:k=M.length:=by omega
  obtain rfl:=l;rw [Qg] at p
  have o:hasDir M d=false:=by
   cases A:hasDir M d with
   |false=>rfl
   |true=>obtain⟨y,b,C⟩:=Vi.1 A;exact absurd (of_decide_eq_true C) (p y b)
  exact⟨by rw [o];rfl,e⟩
theorem zHX{xq:RQ}{w:World}(V:QyV w xq q)(A:q.words.length<=1000000):
  Sp PP 312 #[agg xq,agg (⟨0,0,0,⟨none,0,0⟩,0,0⟩:RQ)] w λv w'=>Tells (q=zQy) v/\Stp w w':=by
 obtain⟨p,r,x,C,y,z⟩:=V;have b:¬(q.kind=0/\q.frm=0/\q.to=0/\q.words=[]/\q.rad=0/\q.most=0)->¬q=zQy:=λh e=>h (by rw [e];exact⟨rfl,rfl,rfl,rfl,rfl,rfl⟩);refine eN ?_;refine rbx λK w1 n1 d=>rbx λL E n2 l=>rX d rfl (rX l rfl ?_);refine ite (λF=>?_) (λh=>⟨.f (b λq=>h (p.trans q.1)),stp⟩);refine rX d rfl (rX l rfl ?_);refine ite (λG=>?_) (λh=>⟨.f (b λq=>h (r.trans q.2.1)),stp⟩);refine rX d rfl (rX l rfl ?_);refine ite (λH=>?_) (λh=>⟨.f (b λq=>h (x.trans q.2.2.1)),stp⟩);refine rld (B:=d) (v:=.slice xq.words.a xq.words.n xq.words.c) rfl (rX l rfl ?_);refine rcall (zDc (C.up (w':=E)) (SlF.nil _) A) ?_;rintro _ M ⟨⟨rfl,o⟩|⟨rfl,o⟩,O⟩
 case' inr=>exact⟨.f (b λq=>o q.2.2.2.1),stp⟩
 refine rX d rfl (rX l rfl ?_);refine ite (λI=>?_) (λh=>⟨.f (b λq=>h (y.trans q.2.2.2.2.1)),stp⟩);refine rX d rfl (rX l rfl ?_);refine ite (λJ=>⟨.t ?_,stp⟩) (λh=>⟨.f (b λq=>h (z.trans q.2.2.2.2.2)),stp⟩);obtain⟨Q,R,S,T,U,W⟩:=q;dsimp only at p r x y z o;unfold zQy;rw [<-p,<-r,<-x,o,<-y,<-z,F,G,H,I,J]
theorem zIx{x:RReq}{d:RqD}{w:World}(V:RqV w x d)(A:d.q.words.length<=1000000)(E:∀s∈d.q.words,s.size<=1000000):Sp PP 231 #[agg x] w λv w'=>Tells (RqIs d) v/\Stp w w':=by
 have X:=V.id;have Y:=V.kind;have Q:=V.q;have F:=Q.kind;have G:=Q.to;have r:=Q.ws.len;have H:=Q.rad;have I:=Q.most;refine eN ?_;refine rbx λZ w1 n1 e=>rG e x.q (ral λJ w2 n2 K=>rE K x.q λl b L _=>?_);have b:Bk l J (enc x.q) 53:=b;have s3:Stp w1 l:=n2.st L;refine rld (B:=e) (v:=.int .i64 x.id) rfl (rcall zE0 ?_);rintro _ l ⟨⟨rfl,C⟩|⟨rfl,C⟩,rfl⟩
 case' inr=>exact⟨.f (λh=>C (by have:=h.2.1;omega)),stp⟩
 refine rld (B:=e) (v:=.int .i64 x.kind) rfl (ite (λM=>?_) (λM=>?_))
 ·refine rG b x.q (rbuild (cs:=enc (⟨0,0,0,⟨none,0,0⟩,0,0⟩:RQ)) rfl (rcall (zHX (Q.up (w':=l)) A) ?_));rintro _ O ⟨⟨rfl,o⟩|⟨rfl,o⟩,R⟩
  ·exact⟨.t ⟨.inl (by omega),by omega,by rw [if_pos (by omega)];exact o⟩,stp⟩
  ·exact⟨.f (λh=>o (by have:=h.2.2;rwa [if_pos (by omega)] at this)),stp⟩
 refine rld (B:=b) (v:=.int .i64 x.q.kind) rfl (rld (B:=e) (v:=.int .i64 x.kind) rfl ?_);refine ite (λo=>⟨.f (λh=>by rcases h.1 with h|h <;> omega),stp⟩) (λo=>?_);refine rG b x.q (rcall (zFB (n:=200) (Q.up (w':=l)) A E) ?_);rintro _ O ⟨⟨y,rfl⟩|⟨y,rfl⟩,R⟩
 case' inr =>
  refine ite (λ_=>⟨.f (λh=>by
   have S:=h.1;rcases S with h|h
   ·omega
   ·exact y h.2),stp⟩) (λh=>absurd (by decide) h)
 refine iF (· rfl) ?_;have ok:d.kind=4\/d.q.kind=d.kind/\QyIs d.q 200:=.inr ⟨by omega,y⟩;refine rld (B:=e) (v:=.int .i64 x.kind) rfl (ite (λT=>?_) (λT=>?_))
 ·refine rld (B:=b) (v:=.int .i64 x.q.to) rfl ?_;exact ite (λp=>⟨.t ⟨ok,by omega,by rw [if_neg (by omega),if_pos (by omega)];omega⟩,stp⟩) (λp=>⟨.f (λh=>by have:=h.2.2;rw [if_neg (by omega),if_pos (by omega)] at this;omega),stp⟩)
 have z:∀h:RqIs d,d.q.words=[]/\d.q.rad=0/\d.q.most=0:=λh=>by have:=h.2.2;rwa [if_neg (by omega),if_neg (by omega)] at this
 refine rld (B:=b) (v:=.slice x.q.words.a x.q.words.n x.q.words.c) rfl (ite (λp=>?_) (λp=>⟨.f (λh=>p (by have:=(z h).1;rw [r,this];rfl)),stp⟩));refine rld (B:=b) (v:=.int .i64 x.q.rad) rfl (ite (λU=>?_) (λU=>⟨.f (λh=>by have:=(z h).2;omega),stp⟩));refine rld (B:=b) (v:=.int .i64 x.q.most) rfl (ite (λW=>⟨.t ⟨ok,by omega,?_⟩,stp⟩) (λW=>⟨.f (λh=>by have:=(z h).2;omega),stp⟩));rw [if_neg (by omega),if_neg (by omega)];exact⟨Qn (by omega),by omega,by omega⟩
theorem nums2{a b:Int}(c:0<=a/\a<=2147483647)(d:0<=b/\b<=2147483647):numsB [a,b]=numB a.toNat++numB b.toNat:=by simp [numsB,c,d]
theorem zEC{a b:Int}{w:World}{x:Option Addr}{c:Nat}(h:SlF w (.slice x 2 c) [a,b])(d:0<=a/\a<=2147483647)(f:0<=b/\b<=2147483647):
  Sp PP 222 #[.slice x 2 c] w λv w'=>v=txt (numB a.toNat++numB b.toNat)/\Stp w w':=
 (zAV h (by simp)).mono λv w' ⟨e,s⟩=>⟨by rw [e,nums2 d f],s⟩
theorem nb5{n:Int}(h:0<=n/\n<=2147483647):(numB n.toNat).length<=5:=zAm (by omega)
theorem zGk{x:RReq}{d:RqD}{w:World}(V:RqV w x d)(hl:d.q.words.length<=1000000)(G:∀s∈d.q.words,s.size<=1000000):
  Sp PP 131 #[agg x] w λv w'=>((RqIs d/\v=.tuple #[txt (encRq d),.int .i64 0])\/(¬RqIs d/\v=.tuple #[txt [],.int .i64 1]))/\Stp w w':=by
 have k1:=V.id;have H:=V.kind;have Q:=V.q;have t:=Q.frm;have I:=Q.to;have J:=Q.ws.len;have K:=Q.rad;have L:=Q.most;refine eN ?_;refine rbx λb1 w1 n1 r=>rG r x (rcall (zIx (V.up (w':=w1)) hl G) ?_);rintro _ w2 ⟨⟨rfl,hd⟩|⟨rfl,hd⟩,e2⟩
 case' inr=>exact⟨.inr ⟨hd,rfl⟩,stp⟩
 have y:=hd.2.1;have b:d.kind≠4->d.q.kind=d.kind:=λh=>(hd.1.resolve_left h).1;have M:d.kind≠4->QyIs d.q 200:=λh=>(hd.1.resolve_left h).2
 have a0:d.kind=1\/d.kind=2\/d.kind=3\/d.kind=4:=by
  by_cases h:d.kind=4
  ·omega
  ·have:=b h;have:=(M h).1;omega
 refine rG r x.q (ral λb2 w3 n3 z3=>rE z3 x.q λO o f4 _=>?_);have o:Bk O b2 (enc x.q) 53:=o;have s4:Stp w2 O:=n3.st f4;refine rld (B:=r) (v:=.int .i64 d.id) (by rw [<-k1];rfl) (rld (B:=r) (v:=.int .i64 d.kind) (by rw [<-H];rfl) ?_);refine rbs [d.id,d.kind] rfl (vs:=[_,_]) rfl rfl (by decide) λb5 w5 n5 S5=>?_;have s5:Stp O w5:=⟨n5.ext⟩;refine rcall (zEC S5 y (by omega)) ?_;rintro _ w6 ⟨rfl,e6⟩;have l1:=nb5 y;have l2:=nb5 (n:=d.kind) (by omega);refine rld (B:=r) (v:=.int .i64 d.kind) (by rw [<-H];rfl) (ite (λh3=>?_) (λh3=>?_))
 ·have A:=M (by omega);have R:=A.2.1;have b:=b (by omega);have a1:=A.2.2.1 (by omega);refine rld (B:=o) (v:=.int .i64 d.q.frm) (by rw [<-t];rfl) (rld (B:=o) (v:=.int .i64 d.q.to) (by rw [<-I];rfl) ?_);refine rbs [d.q.frm,d.q.to] rfl (vs:=[_,_]) rfl rfl (by decide) λb7 S T U=>?_;have s7:Stp w6 S:=⟨T.ext⟩;refine rcall (zEC U (by omega) (by omega)) ?_;rintro _ w8 ⟨rfl,e8⟩;have l3:=nb5 (n:=d.q.frm) (by omega);have l4:=nb5 (n:=d.q.to) (by omega);refine rsadd (by simp only [zAd,Qb];omega) ?_
  have C:(⟨(numB d.id.toNat++numB d.kind.toNat).toArray⟩:ByteArray)++⟨(numB d.q.frm.toNat++numB d.q.to.toNat).toArray⟩=⟨(encRq d).toArray⟩:=by
   rw [zAD];unfold encRq encQ;rw [if_neg (by omega),if_neg (by omega),Qp]
  exact⟨.inl ⟨hd,congrArg (λz:ByteArray=>Value.tuple #[.string z,.int .i64 0]) C⟩,stp⟩
 refine rld (B:=r) (v:=.int .i64 d.kind) (by rw [<-H];rfl) (ite (λE=>?_) (λE=>?_))
 ·have C:numB d.id.toNat++numB d.kind.toNat=encRq d:=by
   unfold encRq encQ;rw [if_pos E,QE]
  exact⟨.inl ⟨hd,congrArg (λz=>Value.tuple #[txt z,.int .i64 0]) C⟩,stp⟩
 have W:d.kind=3:=by omega
 have A:=M E;have b:=b E;have R:=A.2.1;have F:=A.2.2.2 (by omega);refine rld (B:=o) (v:=.int .i64 d.q.frm) (by rw [<-t];rfl) (rld (B:=o) (v:=.slice x.q.words.a x.q.words.n x.q.words.c) rfl ?_);refine rbs [d.q.frm,(x.q.words.n:Int)] rfl (vs:=[_,_]) rfl rfl (by decide) λb7 S T U=>?_;have s7:Stp w6 S:=⟨T.ext⟩;refine rcall (zEC U (by omega) (by omega)) ?_;rintro _ w8 ⟨rfl,e8⟩;have l3:=nb5 (n:=d.q.frm) (by omega);have l4:=nb5 (n:=(x.q.words.n:Int)) (by omega)
 have X:∀k,((d.q.words.take k).flatMap textB).length<=8*17:=λk=>by
  have h:=zDp (f:=textB) (m:=17) (l:=d.q.words.take k) λs G=>by
   have h1:=(F.2.2.2 s (Vu G)).2.2;have a4:s.data.toList.length=s.size:=Vc;have:=zAm (n:=s.size) (by omega);unfold textB;rw [Qb];omega
  have h8:(d.q.words.take k).length*17<=8*17:=Ji _ (by rw [Qm];omega);omega
 refine rsadd (by simp only [zAd,Qb];omega) ?_;have⟨P,Y⟩:∃P,P=numB d.id.toNat++numB d.kind.toNat++(numB d.q.frm.toNat++numB ((x.q.words.n:Int)).toNat):=⟨_,rfl⟩;have a5:P.length<=20:=by rw [Y];simp only [Qb];omega
 have h0:(⟨(numB d.id.toNat++numB d.kind.toNat).toArray⟩:ByteArray)++⟨(numB d.q.frm.toNat++numB ((x.q.words.n:Int)).toNat).toArray⟩=⟨(P++(d.q.words.take 0).flatMap textB).toArray⟩:=by rw [zAD,Y];simp
 refine cO 7 [] 5 6 d.q.words.length (λk v u=>v=txt (P++(d.q.words.take k).flatMap textB)/\Stp w8 u) ⟨congrArg Value.string h0,stp⟩ ?_;rintro k _ gf u hk ⟨rfl,e⟩;have a6:=X k;refine rld (B:=o) (v:=.slice x.q.words.a x.q.words.n x.q.words.c) rfl (ite (λhlt=>?_) (λa7=>?_))
 ·have p:k<d.q.words.length:=by omega
  have a8:=(F.2.2.2 _ (Qa p)).2.2;have a9:=zJx (s:=d.q.words[k]) (by omega);refine rld (B:=o) (v:=.slice x.q.words.a x.q.words.n x.q.words.c) rfl (rix (Q.ws.up (w':=u)) (x:=d.q.words[k]) (by simp) λb9 o9 A9=>rload1 (A9.cell0 rfl) (rcall (zGA (s:=d.q.words[k]) (by omega)) ?_));rintro _ u1 ⟨rfl,e1⟩;refine rsadd (by simp only [zAd,Qb];omega) ?_
  have h1:(⟨(P++(d.q.words.take k).flatMap textB).toArray⟩:ByteArray)++⟨(textB d.q.words[k]).toArray⟩=⟨(P++(d.q.words.take (k+1)).flatMap textB).toArray⟩:=by
   rw [zAD,take_add p,Jl];simp
  exact rA ⟨rfl,p,congrArg Value.string h1,stp⟩
 ·refine rld (B:=o) (v:=.int .i64 d.q.rad) (by rw [<-K];rfl) (rld (B:=o) (v:=.int .i64 d.q.most) (by rw [<-L];rfl) ?_);refine rbs [d.q.rad,d.q.most] rfl (vs:=[_,_]) rfl rfl (by decide) λb9 w9 n9 S9=>?_;have s9:Stp u w9:=⟨n9.ext⟩;refine rcall (zEC S9 (by omega) (by omega)) ?_;rintro _ b0 ⟨rfl,b3⟩;have l5:=nb5 (n:=d.q.rad) (by omega);have l6:=nb5 (n:=d.q.most) (by omega);refine rsadd (by simp only [zAd,Qb];omega) ?_;have Z:d.q.words.take k=d.q.words:=Qj (by omega)
  have C:(⟨(P++(d.q.words.take k).flatMap textB).toArray⟩:ByteArray)++⟨(numB d.q.rad.toNat++numB d.q.most.toNat).toArray⟩=⟨(encRq d).toArray⟩:=by
   rw [zAD,Z,Y];unfold encRq encQ wdsB;rw [if_neg E,if_pos W,J];simp
  exact⟨.inl ⟨hd,congrArg (λz:ByteArray=>Value.tuple #[.string z,.int .i64 0]) C⟩,stp⟩
abbrev RdC (w:World) (b:Nat) (p r:List UInt8) (bad:Bool):Prop:=Bk w b [txt (p++r),.int .i64 (p.length:Nat),.bool bad] 217
def Cut (p r:List UInt8) (bad:Bool) (n:Nat) (p' r':List UInt8) (bad':Bool):Prop:=
 p'++r'=p++r/\n<=2147483647/\((r=numB n++r'/\bad'=bad)\/(bad'=true/\∀(m:Nat) (t:List UInt8),m<=2147483647->r≠numB m++t))
theorem zAR{p r:List UInt8}{d:Bool}{b:Nat}{w:World}(B:RdC w b p r d)(F:p.length+r.length<=1000000000):
  Sp PP 129 #[.pointer (some ⟨b,0,none⟩)] w λv w'=>∃n y z c,v=.int .i64 ((n:Nat):Int)/\RdC w' b y z c/\Cut p r d n y z c/\Fr (λi=>i=b) w w':=
 (zGl B (by rw [Qb];omega)).mono λv w' ⟨h,f⟩=>by
  rcases h with ⟨A,n,e,C,rfl,B'⟩|⟨l,rfl,B'⟩
  ·have o:p.length=A:=Int.ofNat_inj.1 e;obtain rfl:=o;have o:=zK2.1 C;obtain⟨x,t,rfl⟩:=o;refine⟨n,p++numB n,t,d,rfl,?_,⟨by simp,x,.inl ⟨rfl,rfl⟩⟩,f⟩;unfold RdC;rw [Qb,Qp];exact B'
  ·exact⟨0,p,r,true,rfl,B',⟨rfl,by decide,.inr ⟨rfl,λm t x E=>l _ m rfl (zK2.2 ⟨x,t,E⟩)⟩⟩,f⟩
def CutT (p r:List UInt8) (bad:Bool) (x:List UInt8) (p' r':List UInt8) (bad':Bool):Prop:=
 p'++r'=p++r/\x.length<=4000/\((r=(numB x.length++x)++r'/\bad'=bad)\/(bad'=true/\rdT r=none))
theorem zQh{r t x:List UInt8}(h:rdT r=some (x,t)):x.length<=4000:=zJn h
theorem zLD{p r:List UInt8}{c:Bool}{b:Nat}{w:World}(B:RdC w b p r c)(V:p.length+r.length<=1000000000):
  Sp PP 130 #[.pointer (some ⟨b,0,none⟩)] w λv w'=>∃x H I d,v=txt x/\RdC w' b H I d/\CutT p r c x H I d/\Fr (λi=>i=b) w w':=by
 refine eN ?_;refine dQ 16 λW X=>tX B rfl nf (tX B rfl nf (rcall (zDB (s:=p++r) (A:=p.length) (by rw [Qb];omega)) ?_));rintro v f ⟨⟨x,h,⟨Y,y⟩,rfl⟩|⟨l,rfl⟩,J⟩
 ·refine⟨J.e,?_⟩;rw [V0] at y;have M:=zQh y;have z:=zFH y
  have C:h=(p++(numB x.length++x)).length:=by
   have K:=congrArg List.length z;have Z:(p++r).length=p.length+r.length:=Qb;have O:(p++(numB x.length++x)).length=p.length+(numB x.length++x).length:=Qb;have L:((numB x.length++x)++(p++r).drop h).length=(numB x.length++x).length+((p++r).length - h):=by rw [@List.length_append _ (numB x.length++x),QR]
   have Q:=K.trans L;clear K L;rw [O];generalize (numB x.length++x).length=N at Q ⊢;generalize (p++r).length=T at *;omega
  have o:(p++(numB x.length++x))++(p++r).drop h=p++r:=by rw [Qp,<-z]
  have t:=Bk.mv B (w:=f);have E:Fr (λi=>i=b) w f:=fE w f;refine rX t rfl ?_;cases c
  all_goals
   refine rS t [.bool _] (zAj _) λR F G _=>rS F [.int .i64 _] (zAa _) λu4 S U _=>?_;refine⟨x,p++(numB x.length++x),(p++r).drop h,_,rfl,?_,⟨o,M,.inl ⟨z,rfl⟩⟩,(E.trans G).trans U⟩;unfold RdC;rw [o,<-C];exact S
 ·refine⟨J.e,?_⟩;rw [V0] at l;have t:=Bk.mv B (w:=f);have E:Fr (λi=>i=b) w f:=fE w f;refine rX t rfl ?_;cases c
  all_goals
   refine rS t [.bool _] (zAj _) λR F G _=>?_;exact⟨[],p,r,true,rfl,F,⟨rfl,by simp,.inr ⟨rfl,l⟩⟩,E.trans G⟩
def KsR (s:List UInt8) (bad:Bool) (k:RqD->Prop):Prop:=∀d,RqIs d->s=encRq d->bad=false/\k d
theorem KsR.mono{b:Bool}{k e:RqD->Prop}(h:KsR s b k)(l:∀d,RqIs d->k d->e d):KsR s b e:=λd c f=>⟨(h d c f).1,l d c (h d c f).2⟩
theorem KsR.step{p r A w:List UInt8}{f b:Bool}{k x:RqD->Prop}(h:KsR s f k)(c:Cut p r f n A w b)(m:RqD->Nat)(t:RqD->List UInt8)(C:∀d,RqIs d->k d->r=numB (m d)++t d/\m d<=2147483647)
  (E:∀d,RqIs d->k d->n=m d->w=t d->x d):KsR s b x:=by
 intro d e F;have l:=h d e F;obtain⟨G,y⟩:=l;have l:=C d e y;obtain⟨z,H⟩:=l;have l:=c.2.2;rcases l with ⟨o,v⟩|⟨_,v⟩
 ·rw [z] at o;exact⟨v.trans G,E d e y (zHa o).1.symm (zHa o).2.symm⟩
 ·exact(v _ _ H z).elim
theorem KsR.text{p r F l x:List UInt8}{o e:Bool}{k y:RqD->Prop}(h:KsR s o k)(c:CutT p r o x F l e)(m:RqD->ByteArray)(t:RqD->List UInt8)(G:∀d,RqIs d->k d->r=textB (m d)++t d/\(m d).size<=4000)
  (H:∀d,RqIs d->k d->bsOf x=m d->l=t d->y d):KsR s e y:=by
 intro d f I;have v:=h d f I;obtain⟨J,z⟩:=v;have v:=G d f z;obtain⟨K,L⟩:=v;have b:=zIz L (t d);rw [<-K] at b;have v:=c.2.2;rcases v with ⟨M,w⟩|⟨_,w⟩
 ·have A:(bsOf x).size=x.length:=zAd x;have C:=zIz (s:=bsOf x) (by rw [A];exact c.2.1) l
  have O:textB (bsOf x)++l=r:=by
   rw [M];unfold textB;rw [A];rfl
  rw [O,b] at C;have E:=QL C;have Q:(m d).data.toList=x:=congrArg Prod.fst E;have R:t d=l:=congrArg Prod.snd E;exact⟨w.trans J,H d f z (by rw [<-Q,bsOf_data]) R.symm⟩
 ·rw [b] at w;cases w
theorem zOn{w:World}(d:s.length<=4611686018427387904):Sp PP 66 #[txt s] w λv w'=>((∃n:Nat,idOf s=some n/\v=.tuple #[.int .i64 (n:Int),.bool true])\/(idOf s=none/\v=.tuple #[.int .i64 0,.bool false]))/\Stp w w':=by
 refine eN ?_;refine rcall (zAt (A:=0) d) ?_;rintro _ w1 ⟨⟨n,e,⟨_,c⟩,rfl⟩|⟨b,rfl⟩,f⟩
 ·rw [Jf] at c;exact⟨.inl ⟨n,by unfold idOf;rw [c];rfl,rfl⟩,stp⟩
 ·rw [Jf] at b;exact⟨.inr ⟨by unfold idOf;rw [b];rfl,rfl⟩,stp⟩
theorem RqO.upR{w:World}[Le w w']{x:RReq}{d:RqD}(h:RqO B w x d):RqO B w' x d:=by
 obtain⟨b,c,e,f,l,o,p,r⟩:=h;exact⟨b,c,e,f,l,o.up,p,r⟩
theorem RqO.frcR{w:World}{x:RReq}{d:RqD}{b:Nat}{cs:List Value}{e:TypeId}(h:RqO B w x d)(f:Fr (λi=>i=b) w w')(k:Bk w b cs e)(c:9≠e):RqO B w' x d:=by
 obtain⟨l,o,p,r,t,v,y,z⟩:=h;exact⟨l,o,p,r,t,v.frc f k c,y,z⟩
def restQ (d:RqD):List UInt8:=if d.kind=3 then wdsB d.q.words++(numB d.q.rad.toNat++numB d.q.most.toNat) else numB d.q.to.toNat
theorem zHg(h:∀d,RqIs d->s=encRq d->False):reqOf s=none:=by
 cases e:reqOf s with
 |none=>rfl
 |some d=>exact(h d (zID.1 e).1 (zID.1 e).2).elim
theorem zCL{w:World}(T:s.length<=1000000):Sp PP 65 #[txt s] w λv w'=>GetReq s w.heap.size v w'/\Stp w w':=by
 refine eN ?_;refine ral λbz w1 n1 z1=>?_;have g9:=n1.b;have h0:=n1.s;refine rbuild (cs:=[txt s,.int .i64 0,.bool false]) rfl (rbx λbr w2 n2 B2=>?_);have h1:=n2.b;have h2:=n2.s;have R2:RdC w2 br [] s false:=B2;clear B2;have K:∀i,i=br->w.heap.size<=i:=by omega
 have b0:∀i,i=bz->w.heap.size<=i:=by omega
 have L:¬bz=br:=by omega
 have K0:KsR s false λd=>s=numB d.id.toNat++(numB d.kind.toNat++encQ d):=λd c he=>⟨rfl,he⟩;have Z2:Bk w2 bz (enc zRq) 55:=z1.mv;clear z1;refine rcall (zAR R2 (by simp;omega)) ?_;rintro _ w3 ⟨z,p3,r3,c6,rfl,R3,c3,f3⟩
 have c7:∀d,RqIs d->0<=d.kind/\d.kind<=4:=λd h=>by
  by_cases A:d.kind=4
  ·omega
  ·have:=(h.1.resolve_left A).1;have:=(h.1.resolve_left A).2.1;omega
 have K1:KsR s c6 λd=>d.id=(z:Int)/\r3=numB d.kind.toNat++encQ d:=
  K0.step c3 (λd=>d.id.toNat) (λd=>numB d.kind.toNat++encQ d) (λd c h=>⟨h,by have:=c.2.1;omega⟩) λd c _ M G=>⟨by have:=c.2.1;omega,G⟩
 have l3:p3.length+r3.length=s.length:=by have:=congrArg List.length c3.1;simpa using this
 have s3:Stp w w3:=⟨Fr.st Le.e f3 K⟩;have Z3:=Z2.fr f3 L;refine rcall (zAR R3 (by omega)) ?_;rintro _ w4 ⟨f,p4,r4,b4,rfl,R4,c4,f4⟩
 have K2:KsR s b4 λd=>d.id=(z:Int)/\d.kind=(f:Int)/\r4=encQ d:=
  K1.step c4 (λd=>d.kind.toNat) (λd=>encQ d) (λd c h=>⟨h.2,by have:=c7 d c;omega⟩) λd c h M G=>⟨h.1,by have:=c7 d c;omega,G⟩
 have l4:p4.length+r4.length=s.length:=by have:=congrArg List.length c4.1;simp only [Qb] at this;omega
 have s4:Stp w w4:=⟨Fr.st s3.e f4 K⟩;have Z4:=Z3.fr f4 L;have h4:=s4.e.size;refine rbuild (cs:=enc (⟨z,f,⟨0,0,0,⟨none,0,0⟩,0,0⟩⟩:RReq)) rfl (ral λbx w5 n5 z5=>?_);have h7:=n5.b;have V:∀i,i=bx->w.heap.size<=i:=by omega
 have zr:=Bk.lt R4;have zz:=Z4.lt;have W:¬bx=br:=by omega
 have X:¬br=bx:=by omega
 have Y:¬bz=bx:=by omega
 refine rE z5 (⟨z,f,⟨0,0,0,⟨none,0,0⟩,0,0⟩⟩:RReq) λw6 X6 f6 _=>?_;have X6:Bk w6 bx (enc (⟨z,f,⟨0,0,0,⟨none,0,0⟩,0,0⟩⟩:RReq)) 55:=X6;clear z5;have h8:Stp w4 w6:=n5.st f6;have s6:Stp w w6:=⟨lE w w6⟩;have R6:=Bk.mv R4 (w:=w6);have Z6:=Z4.mv (w:=w6);refine ite (λha=>?pa) (λha=>?pb)
 case' pa=>refine ite (λhb=>?pc) (λhb=>?pd)
 case' pb =>
  refine iF (by omega) (iF (by omega) (iF (by omega) ?_));have d9:¬(1<=f/\f<=3):=by omega
 case' pd =>
  refine iF (by omega) (iF (by omega) (iF (by omega) ?_));have d9:¬(1<=f/\f<=3):=by omega
 case' pb|pd =>
  have F:∃H:RReq,H=⟨z,f,⟨0,0,0,⟨none,0,0⟩,0,0⟩⟩:=⟨_,rfl⟩;obtain⟨H,O⟩:=F;have F:∃E:RqD,E=⟨z,f,zQy⟩:=⟨_,rfl⟩;obtain⟨E,t⟩:=F;have F:∃q,q=b4:=⟨_,rfl⟩;obtain⟨o,y⟩:=F;have XX:Bk w6 bx (enc H) 55:=by rw [O];exact X6
  have ZZ:=Z6;have RR:RdC w6 br p4 r4 o:=by rw [y];exact R6
  have OO:RqO w.heap.size w6 H E:=by rw [O,t];exact⟨rfl,rfl,rfl,rfl,rfl,Own.nil _ _ _,rfl,rfl⟩
  have hl:E.q.words.length<=1000000:=by rw [t];simp [zQy]
  have a4:∀s∈E.q.words,s.size<=1000000:=by rw [t];intro s T;simp [zQy] at T
  have KK:KsR s o λd=>d=E:=by
   rw [y];refine K2.mono λd c h=>?_
   have A:d.kind=4:=Classical.byContradiction λA=>by
    have h5:=(c.1.resolve_left A).1;have h6:=(c.1.resolve_left A).2.1;omega
   have hz:=c.2.2;rw [if_pos A] at hz;obtain⟨i,k,q⟩:=d;dsimp only at h hz;rw [t,<-h.1,<-h.2.1,hz]
 case' pc =>
  refine rS X6 [.int .i64 (f:Int)] (zAa _) λw7 X7 f7 _=>?_;have X7:Bk w7 bx (enc (⟨z,f,⟨f,0,0,⟨none,0,0⟩,0,0⟩⟩:RReq)) 55:=X7;have s7:Stp w w7:=⟨Fr.st s6.e f7 V⟩;have R7:=Bk.fr R6 f7 X;have Z7:=Z6.fr f7 Y;refine rcall (zAR R7 (by omega)) ?_;rintro _ w8 ⟨l,p8,r8,c9,rfl,R8,c8,f8⟩;have l8:p8.length+r8.length=s.length:=by have:=congrArg List.length c8.1;simp only [Qb] at this;omega
  have K3:KsR s c9 λd=>d.id=(z:Int)/\d.kind=(f:Int)/\d.q.frm=(l:Int)/\r8=restQ d:=by
   refine K2.step c8 (λd=>d.q.frm.toNat) (λd=>restQ d) (λd c h=>?_) λd c h M G=>?_
   ·have A:¬d.kind=4:=by omega
    have h5:=(c.1.resolve_left A).2.2.1;refine⟨?_,by omega⟩;rw [h.2.2];unfold encQ restQ;rw [if_neg A];split <;> rfl
   ·have A:¬d.kind=4:=by omega
    have h5:=(c.1.resolve_left A).2.2.1;exact⟨h.1,h.2.1,by omega,G⟩
  have s8:Stp w w8:=⟨Fr.st s7.e f8 K⟩;have X8:=X7.fr f8 W;have Z8:=Z7.fr f8 L;refine rS X8 [.int .i64 (l:Int)] (zAa _) λw9 X9 f9 _=>?_;have X9:Bk w9 bx (enc (⟨z,f,⟨f,l,0,⟨none,0,0⟩,0,0⟩⟩:RReq)) 55:=X9;have s9:Stp w w9:=⟨Fr.st s8.e f9 V⟩;have R9:=Bk.fr R8 f9 X;have J:=Z8.fr f9 Y;refine ite (λhe=>?pe) (λhe=>?pf)
  case' pf=>refine ite (λhf=>?pg) (λhf=>?ph)
  case' pe=>have d0:(f:Int)=1\/(f:Int)=2:=.inl he
  case' pg=>have d0:(f:Int)=1\/(f:Int)=2:=.inr hf
  case' pe|pg =>
   refine rcall (zAR R9 (by omega)) ?_;rintro _ b5 ⟨a5,a6,Z,C,rfl,b7,a7,R⟩;have d1:a6.length+Z.length=s.length:=by have:=congrArg List.length a7.1;simp only [Qb] at this;omega
   have e0:KsR s C λd=>d.id=(z:Int)/\d.kind=(f:Int)/\d.q.frm=(l:Int)/\d.q.to=(a5:Int):=by
    refine K3.step a7 (λd=>d.q.to.toNat) (λd=>[]) (λd c h=>?_) λd c h M G=>?_
    ·have A:¬d.kind=4:=by omega
     have h6:=(c.1.resolve_left A).1;have h5:=(c.1.resolve_left A).2.2.2.1 (by omega);refine⟨?_,by omega⟩;rw [h.2.2.2];unfold restQ;rw [if_neg (by omega),QE]
    ·have A:¬d.kind=4:=by omega
     have h6:=(c.1.resolve_left A).1;have h5:=(c.1.resolve_left A).2.2.2.1 (by omega);exact⟨h.1,h.2.1,h.2.2.1,by omega⟩
   have b8:Stp w b5:=⟨Fr.st s9.e R K⟩;have b9:=X9.fr R W;have c0:=J.fr R L;refine rS b9 [.int .i64 (a5:Int)] (zAa _) λa8 c2 c5 _=>?_;have c2:Bk a8 bx (enc (⟨z,f,⟨f,l,a5,⟨none,0,0⟩,0,0⟩⟩:RReq)) 55:=c2;have h9:Stp w a8:=⟨Fr.st b8.e c5 V⟩;have e1:=Bk.fr b7 c5 X;have e2:=c0.fr c5 Y;refine iF (by omega) ?_;have F:∃H:RReq,H=⟨z,f,⟨f,l,a5,⟨none,0,0⟩,0,0⟩⟩:=⟨_,rfl⟩;obtain⟨H,O⟩:=F;have F:∃E:RqD,E=⟨z,f,⟨f,l,a5,[],0,0⟩⟩:=⟨_,rfl⟩;obtain⟨E,t⟩:=F;have F:∃q,q=C:=⟨_,rfl⟩;obtain⟨o,y⟩:=F;have XX:Bk a8 bx (enc H) 55:=by rw [O];exact c2
   have ZZ:=e2;have RR:RdC a8 br a6 Z o:=by rw [y];exact e1
   have OO:RqO w.heap.size a8 H E:=by rw [O,t];exact⟨rfl,rfl,rfl,rfl,rfl,Own.nil _ _ _,rfl,rfl⟩
   have hl:E.q.words.length<=1000000:=by rw [t];simp
   have a4:∀s∈E.q.words,s.size<=1000000:=by rw [t];intro s T;simp at T
   have KK:KsR s o λd=>d=E:=by
    rw [y];refine e0.mono λd c h=>?_;have A:¬d.kind=4:=by omega
    have h6:=(c.1.resolve_left A).1;have hz:=c.2.2;rw [if_neg A,if_neg (by omega)] at hz;obtain⟨i,k,⟨q1,q2,q3,q4,q5,q6⟩⟩:=d;dsimp only at h hz h6;rw [t,<-h.1,<-h.2.1,<-h.2.2.1,<-h.2.2.2,hz.1,hz.2.1,hz.2.2,h6]
  case' ph =>
   have d2:(f:Int)=3:=by omega
   refine iT d2 (rcall (zAR R9 (by omega)) ?_);rintro _ b5 ⟨N,a6,Z,C,rfl,b7,a7,R⟩;have d1:a6.length+Z.length=s.length:=by have:=congrArg List.length a7.1;simp only [Qb] at this;omega
   have Q:∀d,RqIs d->d.kind=(f:Int)->d.q.kind=3/\d.q.to=0/\(d.q.words.length<=8/\(0<=d.q.rad/\d.q.rad<=200)/\(1<=d.q.most/\d.q.most<=100)/\∀s∈d.q.words,s.size<=12):=λd c h=>by
    have A:¬d.kind=4:=by omega
    have h6:=(c.1.resolve_left A).1;have S:=(c.1.resolve_left A).2.2.2.2 (by omega);have hz:=c.2.2;rw [if_neg A,if_pos (by omega)] at hz;exact⟨by omega,hz,S.1.2,S.2.1,S.2.2.1,λs T=>(S.2.2.2 s T).2.2⟩
   have K4:KsR s C λd=>(d.id=(z:Int)/\d.kind=(f:Int)/\d.q.frm=(l:Int))/\d.q.words.length=N/\d.q.words.take 0=[]/\Z=(d.q.words.drop 0).flatMap textB++(numB d.q.rad.toNat++numB d.q.most.toNat):=by
    refine K3.step a7 (λd=>d.q.words.length) (λd=>d.q.words.flatMap textB++(numB d.q.rad.toNat++numB d.q.most.toNat)) (λd c h=>?_) λd c h M G=>?_
    ·have S:=Q d c h.2.1;refine⟨?_,by omega⟩;rw [h.2.2.2];unfold restQ wdsB;rw [if_pos (by omega),Qp]
    ·exact⟨⟨h.1,h.2.1,h.2.2.1⟩,M.symm,rfl,G⟩
   have b8:Stp w b5:=⟨Fr.st s9.e R K⟩;have b9:=X9.fr R W;have c0:=J.fr R L
   refine cN 10 [] 9 8 (λk u=>∃(I:List ByteArray) (p r:List UInt8) (b1:Bool) (oa:Option Addr) (oc:Nat),I.length=k/\RdC u br p r b1/\p.length+r.length=s.length/\Bk u bx (enc (⟨z,f,⟨f,l,0,⟨oa,I.length,oc⟩,0,0⟩⟩:RReq)) 55/\Bk u bz (enc zRq) 55 /\
     Own w.heap.size 9 u (.slice oa I.length oc) I/\Stp w u/\(∀s∈I,s.size<=4000)/\KsR s b1 λd=>(d.id=(z:Int)/\d.kind=(f:Int)/\d.q.frm=(l:Int))/\d.q.words.length=N/\d.q.words.take k=I/\r=(d.q.words.drop k).flatMap textB++(numB d.q.rad.toNat++numB d.q.most.toNat))
    ⟨[],a6,Z,C,none,0,rfl,b7,d1,b9,c0,Own.nil _ _ _,b8,by simp,K4⟩ ?_
   rintro k gf u hk ⟨I,p,r,b1,oa,oc,e3,Ru,lu,Xu,Zu,Ou,su,d3,Ku⟩;refine ite (λhlt=>?qa) (λi0=>?qb)
   case' qa=>refine ite (λg7=>?qc) (λg8=>?qd)
   case qc =>
    refine rcall (zLD Ru (by omega)) ?_;rintro _ u1 ⟨x,p1,r1,U,rfl,R1,c1,f1⟩;have e4:(bsOf x).size=x.length:=zAd x
    have K5:KsR s U λd=>(d.id=(z:Int)/\d.kind=(f:Int)/\d.q.frm=(l:Int))/\d.q.words.length=N/\d.q.words.take (k+1)=I++[bsOf x]/\r1=(d.q.words.drop (k+1)).flatMap textB++(numB d.q.rad.toNat++numB d.q.most.toNat):=by
     refine Ku.text c1 (λd=>d.q.words[k]?.getD (bsOf [])) (λd=>(d.q.words.drop (k+1)).flatMap textB++(numB d.q.rad.toNat++numB d.q.most.toNat)) (λd c h=>?_) λd c h M G=>?_
     ·have a0:k<d.q.words.length:=by omega
      have S:=(Q d c h.1.2.1).2.2.2.2.2 _ (Qa a0);rw [Qd a0];refine⟨?_,by show (d.q.words[k]).size<=4000;omega⟩;rw [h.2.2.2,JS a0,JV,Qp];rfl
     ·have a0:k<d.q.words.length:=by omega
      rw [Qd a0] at M;refine⟨h.1,h.2.1,?_,G⟩;rw [take_add a0,h.2.2.1,M];rfl
    have d4:p1.length+r1.length=s.length:=by have:=congrArg List.length c1.1;simp only [Qb] at this;omega
    have d5:Stp w u1:=⟨Fr.st su.e f1 K⟩;have X1:=Xu.fr f1 W;have Z1:=Zu.fr f1 L;have O1:=Ou.frc f1 Ru;refine rld (B:=X1) (v:=.slice oa I.length oc) rfl (bS (bsOf x) λb6 u4 e6 _ S6=>rapp1 (u:=w) ⟨rfl,rfl⟩ (O1.up (w':=u4)) S6 (by omega) λv7 u5 O7 f7 s7=>?_);have X5:=(X1.mv (w:=u4)).fro (O1.up (w':=u4)) f7;have Z5:=(Z1.mv (w:=u4)).fro (O1.up (w':=u4)) f7;have R5:=(Bk.mv R1 (w:=u4)).fro (O1.up (w':=u4)) f7;have F:=O7.shape;obtain⟨na,nc,rfl⟩:=F;refine rS X5 [.slice na (I++[bsOf x]).length nc] (sv1 _ _ _) λu6 e5 f8 _=>?_
    exact rA ⟨rfl,by omega,I++[bsOf x],p1,r1,U,na,nc,by simp [e3],Bk.fr R5 f8 X,d4,e5,Z5.fr f8 Y,O7.frc f8 X5,⟨Fr.st (lE w u5) f8 V⟩,λs T=>by
     have F:=Qf.1 T;rcases F with T|T
     ·exact d3 s T
     ·rw [Qc.1 T,e4];exact c1.2.1,K5⟩
   case' qb|qd =>
    have K6:KsR s b1 λd=>(d.id=(z:Int)/\d.kind=(f:Int)/\d.q.frm=(l:Int))/\d.q.words=I/\r=numB d.q.rad.toNat++numB d.q.most.toNat:=Ku.mono λd c h=>by
     have S:=(Q d c h.1.2.1).2.2.1;have d6:d.q.words.length<=k:=by omega
     refine⟨h.1,?_,?_⟩
     ·rw [<-h.2.2.1,Qj d6]
     ·rw [h.2.2.2,XF d6];rfl
    refine rcall (zAR Ru (by omega)) ?_;rintro _ u1 ⟨m1,p1,r1,U,rfl,R1,c1,f1⟩
    have K7:KsR s U λd=>((d.id=(z:Int)/\d.kind=(f:Int)/\d.q.frm=(l:Int))/\d.q.words=I)/\d.q.rad=(m1:Int)/\r1=numB d.q.most.toNat:=by
     refine K6.step c1 (λd=>d.q.rad.toNat) (λd=>numB d.q.most.toNat) (λd c h=>?_) λd c h M G=>?_
     ·have S:=(Q d c h.1.2.1).2.2.2.1;exact⟨h.2.2,by omega⟩
     ·have S:=(Q d c h.1.2.1).2.2.2.1;exact⟨⟨h.1,h.2.1⟩,by omega,G⟩
    have d4:p1.length+r1.length=s.length:=by have:=congrArg List.length c1.1;simp only [Qb] at this;omega
    have d5:Stp w u1:=⟨Fr.st su.e f1 K⟩;have X1:=Xu.fr f1 W;have Z1:=Zu.fr f1 L;have O1:=Ou.frc f1 Ru;refine rS X1 [.int .i64 (m1:Int)] (zAa _) λu2 X2 f2 _=>?_;have X2:Bk u2 bx (enc (⟨z,f,⟨f,l,0,⟨oa,I.length,oc⟩,m1,0⟩⟩:RReq)) 55:=X2;have e7:Stp w u2:=⟨Fr.st d5.e f2 V⟩;have d7:=Bk.fr R1 f2 X;have e8:=Z1.fr f2 Y;have O2:=O1.frc f2 X1;refine rcall (zAR d7 (by omega)) ?_;rintro _ u3 ⟨m2,e9,f0,a9,rfl,f5,g0,b2⟩
    have K8:KsR s a9 λd=>((d.id=(z:Int)/\d.kind=(f:Int)/\d.q.frm=(l:Int))/\d.q.words=I)/\d.q.rad=(m1:Int)/\d.q.most=(m2:Int):=by
     refine K7.step g0 (λd=>d.q.most.toNat) (λd=>[]) (λd c h=>?_) λd c h M G=>?_
     ·have S:=(Q d c h.1.1.2.1).2.2.2.2.1;exact⟨by rw [h.2.2,QE],by omega⟩
     ·have S:=(Q d c h.1.1.2.1).2.2.2.2.1;exact⟨h.1,h.2.1,by omega⟩
    have g1:Stp w u3:=⟨Fr.st e7.e b2 K⟩;have d8:=X2.fr b2 W;have g2:=e8.fr b2 L;have g3:=O2.frc b2 d7;refine rS d8 [.int .i64 (m2:Int)] (zAa _) λu4 X4 b3 _=>?_;have X4:Bk u4 bx (enc (⟨z,f,⟨f,l,0,⟨oa,I.length,oc⟩,m1,m2⟩⟩:RReq)) 55:=X4;have i1:Stp w u4:=⟨Fr.st g1.e b3 V⟩;have F:∃H:RReq,H=⟨z,f,⟨f,l,0,⟨oa,I.length,oc⟩,m1,m2⟩⟩:=⟨_,rfl⟩;obtain⟨H,O⟩:=F;have F:∃E:RqD,E=⟨z,f,⟨f,l,0,I,m1,m2⟩⟩:=⟨_,rfl⟩;obtain⟨E,t⟩:=F;have F:∃q,q=a9:=⟨_,rfl⟩;obtain⟨o,y⟩:=F;have XX:Bk u4 bx (enc H) 55:=by rw [O];exact X4
    have ZZ:=g2.fr b3 Y;have RR:RdC u4 br e9 f0 o:=by rw [y];exact Bk.fr f5 b3 X
    have OO:RqO w.heap.size u4 H E:=by rw [O,t];exact⟨rfl,rfl,rfl,rfl,rfl,g3.frc b3 d8,rfl,rfl⟩
    have hl:E.q.words.length<=1000000:=by rw [t];show I.length<=1000000;omega
    have a4:∀s∈E.q.words,s.size<=1000000:=by rw [t];intro s T;have:=d3 s T;omega
    have KK:KsR s o λd=>d=E:=by
     rw [y];refine K8.mono λd c h=>?_;have S:=Q d c h.1.1.2.1;obtain⟨i,k,⟨q1,q2,q3,q4,q5,q6⟩⟩:=d;dsimp only at h S;rw [t,<-h.1.1.1,<-h.1.1.2.1,<-h.1.1.2.2,<-h.1.2,<-h.2.1,<-h.2.2,S.2.1,S.1,h.1.1.2.1,d2]
 all_goals
  refine rG XX H (rcall (zGk (RqO.v OO) hl a4) ?_);rintro _ v1 ⟨⟨c,rfl⟩|⟨c,rfl⟩,i2⟩
  ·refine rX RR rfl ?_;have g4:=XX.mv (w:=v1);have a1:=ZZ.mv (w:=v1);cases o
   ·refine iF (· rfl) (rsne (λg5=>?_) (λg6=>?_))
    ·refine rbuild (cs:=enc zRq) rfl (rE a1 zRq λv2 J f9 _=>?_);have J:Bk v2 bz (enc zRq) 55:=J;refine rresG (B:=J) rfl ?_;exact⟨.inr ⟨zHg λd M G=>g5 (by have h3:=(KK d M G).2;rw [<-h3,<-G]),rfl⟩,⟨Fr.st Le.e f9 b0⟩⟩
    ·refine rG g4 H (rE a1 H λv2 J f9 _=>?_);have J:Bk v2 bz (enc H) 55:=J;refine rresG (B:=J) rfl ?_
     have he:s=encRq E:=by
      have:=congrArg (λb:ByteArray=>b.data.toList) g6;simpa using this.symm
     exact⟨.inl ⟨E,H,zID.2 ⟨c,he⟩,rfl,(RqO.upR (w':=v1) OO).frcR f9 a1 (by decide)⟩,⟨Fr.st Le.e f9 b0⟩⟩
   ·refine rbuild (cs:=enc zRq) rfl (rE a1 zRq λv2 J f9 _=>?_);have J:Bk v2 bz (enc zRq) 55:=J;refine rresG (B:=J) rfl ?_;exact⟨.inr ⟨zHg λd M G=>(nomatch (KK d M G).1),rfl⟩,⟨Fr.st Le.e f9 b0⟩⟩
  ·refine rX RR rfl ?_;have a1:=ZZ.mv (w:=v1);cases o
   case' false=>refine iT (by decide) ?_
   all_goals
    refine rbuild (cs:=enc zRq) rfl (rE a1 zRq λv2 J f9 _=>?_);have J:Bk v2 bz (enc zRq) 55:=J;refine rresG (B:=J) rfl ?_;exact⟨.inr ⟨zHg λd M G=>c (by have h3:=(KK d M G).2;rw [<-h3];exact M),rfl⟩,⟨Fr.st Le.e f9 b0⟩⟩
def PlaV (l:List RReq) (id:Int) (v:Value):Prop:=
 (∃k:Nat,∃hk:k<l.length,l[k].id=id/\(∀r∈l.take k,r.id≠id)/\v=.tuple #[.int .i64 (k:Int),.bool true])\/((∀r∈l,r.id≠id)/\v=.tuple #[.int .i64 0,.bool false])
theorem zFE{c:Nat}{l:List RReq}{id:Int}{w:World}(h:SlF w (.slice a n c) l)(A:l.length<=1000000):Sp PP 135 #[.slice a n c,.int .i64 id] w λv w'=>PlaV l id v/\Stp w w':=by
 have f:=h.len;obtain rfl:=f;refine eN ?_;refine cN 7 [4,5] 6 l.length (λk u=>(∀r∈l.take k,r.id≠id)/\Stp w u) ⟨by simp,stp⟩ ?_;rintro k g u C ⟨o,e⟩;refine ite (λhlt=>?_) (λt=>?_)
 ·have b:k<l.length:=by omega
  refine rix (h.up (w':=u)) (x:=l[k]) (by simp) λE F z=>rload1 (z.cell 0 rfl) (ite (λp=>?_) (λp=>?_))
  ·exact⟨.inl ⟨k,b,p,o,rfl⟩,stp⟩
  ·refine rA ⟨rfl,b,λy d=>?_,stp⟩;rw [take_add b] at d;have f:=Qf.1 d;rcases f with d|d
   ·exact o y d
   ·rw [Qc.1 d];exact p
 ·have f:k=l.length:=by omega
  obtain rfl:=f;rw [Qg] at o;exact⟨.inr ⟨o,rfl⟩,e⟩
theorem zNG{c:Nat}{l:List RReq}{x:RReq}{m:Int}{w:World}(h:SlF w (.slice a n c) l)(F:l.length<=100000):Sp PP 71 #[.slice a n c,.int .i64 m,agg x] w λv w' =>
  (((∃r∈l,r.id=x.id)/\v=.tuple #[.slice none 0 0,.int .i64 150])\/((∀r∈l,r.id≠x.id)/\m<=l.length/\v=.tuple #[.slice none 0 0,.int .i64 252]) \/
   ((∀r∈l,r.id≠x.id)/\l.length<m/\∃e,v=.tuple #[e,.int .i64 0]/\Own w.heap.size 55 w' e (l++[x])))/\Stp w w':=by
 have p:=h.len;obtain rfl:=p;refine eN ?_;refine rbx λG w1 n1 f=>rld (B:=f) (v:=.int .i64 x.id) rfl (rcall (zFE (id:=x.id) (h.up (w':=w1)) (by omega)) ?_);rintro _ b ⟨⟨k,t,d,H,rfl⟩|⟨d,rfl⟩,I⟩
 ·exact⟨.inl ⟨⟨_,Qa t,d⟩,rfl⟩,stp⟩
 refine ite (λy=>⟨.inr (.inl ⟨d,by omega,rfl⟩),stp⟩) (λy=>?_);refine rapp (u:=b) ⟨rfl,rfl⟩ (Own.nil _ 55 _) (h.up (w':=b)) (by simp;omega) λJ K o L M=>?_;rw [Je] at o;refine rG f x (bS x λO z Q _ A=>rapp1 (u:=b) ⟨rfl,rfl⟩ (o.up (w':=z)) A (by omega) λC R E S T=>?_);exact⟨.inr (.inr ⟨d,by omega,C,rfl,E.mono (lz w b)⟩),stp⟩
def eraK {α:Type} (l:List α) (k i:Nat):List α:=if i<=k then l.take i else l.take k++(l.take i).drop (k+1)
theorem zP6{α:Type}{l:List α}(h:k<l.length):eraK l k (k+1)=eraK l k k:=by
 unfold eraK;rw [if_neg (by omega),if_pos (Qe _),XF (by rw [Qm];omega),QE]
theorem zP7{α:Type}{l:List α}(h:i<l.length)(b:i≠k):eraK l k (i+1)=eraK l k i++[l[i]]:=by
 unfold eraK;by_cases c:i<k
 ·rw [if_pos (by omega),if_pos (by omega),take_add h]
 ·rw [if_neg (by omega),if_neg (by omega),take_add h,List.drop_append_of_le_length (by rw [Qm];omega),Qp]
theorem zOZ{α:Type}{l:List α}(h:k<l.length):eraK l k l.length=l.eraseIdx k:=by
 unfold eraK;rw [if_neg (by omega),Qg,Jp]
theorem zO0{α:Type}(l:List α)(k i:Nat):(eraK l k i).length<=2*l.length:=by
 unfold eraK;split
 ·rw [Qm];omega
 ·rw [Qb,Qm,QR,Qm];omega
theorem zL5{c:Nat}{l:List RReq}{id:Int}{w:World}(h:SlF w (.slice a n c) l)(V:l.length<=100000):Sp PP 132 #[.slice a n c,.int .i64 id] w λv w' =>
  ((∃k:Nat,∃p:k<l.length,l[k].id=id/\(∀r∈l.take k,r.id≠id)/\∃f,v=.tuple #[f,.bool true]/\Own w.heap.size 55 w' f (l.eraseIdx k)) \/
   ((∀r∈l,r.id≠id)/\∃f,v=.tuple #[f,.bool false]/\Own w.heap.size 55 w' f l))/\Stp w w':=by
 have o:=h.len;obtain rfl:=o;refine eN ?_;refine rcall (zFE (id:=id) h (by omega)) ?_;rintro _ w1 ⟨⟨k,p,t,F,rfl⟩|⟨t,rfl⟩,W⟩
 ·refine cO 10 [] 8 9 l.length (λi v u=>Own w.heap.size 55 u v (eraK l k i)/\Stp w u) ⟨Own.nil _ _ _,stp⟩ ?_;rintro i v gf u hi ⟨O,e⟩;refine ite (λhlt=>?_) (λy=>?_)
  ·have b:i<l.length:=by omega
   have G:=zO0 l k i;refine ite (λH=>?_) (λI=>?_)
   ·refine rix (h.up (w':=u)) (x:=l[i]) (by simp) λJ K z=>rloadA z rfl (rbs1 l[i] rfl rfl (by decide) λL A M _ C=>rapp1 (u:=w) ⟨rfl,rfl⟩ (O.up (w':=A)) C (by omega) λQ R d S T=>?_);rw [<-zP7 b (by omega)] at d;exact rA ⟨rfl,b,d,stp⟩
   ·have E:i=k:=by omega
    have d:Own w.heap.size 55 u v (eraK l k (i+1)):=by
     have U:eraK l k (i+1)=eraK l k i:=by rw [E,zP6 p]
     rw [U];exact O
    exact rA ⟨rfl,b,d,e⟩
  ·have o:i=l.length:=by omega
   obtain rfl:=o;rw [zOZ p] at O;exact⟨.inl ⟨k,p,t,F,v,rfl,O⟩,e⟩
 ·refine cO 10 [] 8 9 l.length (λi v u=>Own w.heap.size 55 u v (l.take i)/\Stp w u) ⟨Own.nil _ _ _,stp⟩ ?_;rintro i v gf u hi ⟨O,e⟩;refine ite (λhlt=>?_) (λy=>?_)
  ·have b:i<l.length:=by omega
   refine rix (h.up (w':=u)) (x:=l[i]) (by simp) λJ K z=>rloadA z rfl (rbs1 l[i] rfl rfl (by decide) λL A M _ C=>rapp1 (u:=w) ⟨rfl,rfl⟩ (O.up (w':=A)) C (by simp;omega) λQ R d S T=>?_);rw [<-take_add b] at d;exact rA ⟨rfl,b,d,stp⟩
  ·have o:i=l.length:=by omega
   obtain rfl:=o;rw [Qg] at O;exact⟨.inr ⟨t,v,rfl,O⟩,e⟩
theorem zL4{c:Nat}{x:RReq}{l:List RReq}{w:World}(h:SlF w (.slice a n c) (x::l))(K:l.length<=100000):Sp PP 57 #[.slice a n c] w λv w'=>(∃p,v=.tuple #[agg x,p,.bool true]/\Own w.heap.size 55 w' p l)/\Stp w w':=by
 have z:=h.len;obtain rfl:=z;refine eN ?_;refine ral λr w1 n1 A=>?_;have C:=n1.b;refine iF (by simp only [QA];omega) (rsl (some 1) none (h.up (w':=w1)) (by simp) (by simp) λL M E=>?_);refine rapp (u:=w1) ⟨rfl,rfl⟩ (Own.nil _ 55 _) E (by simp;omega) λt d e O Q=>?_
 have e:Own w1.heap.size 55 d t l:=by
  rw [zBB] at e;simpa using e
 refine rix (i:=0) (h.up (w':=d)) (x:=x) rfl λR S F=>rloadA F rfl ?_;have G:=A.mv (w:=d);refine rE G x λH f y _=>?_;have f:Bk H r (enc x) 55:=f;refine rresG (B:=f) rfl ?_;have I:=n1.s;have o:=lz w w1;have J:=e.fr y λb T _ hd=>by have hd:b=r:=hd;omega
 exact⟨⟨t,rfl,J.mono o⟩,⟨Fr.st (lE w d) y λi hi=>by omega⟩⟩
def AnsS (w:World) (v:Value) (p:AnP):Prop:=∃x:AnsD,v=agg x/\x.found=p.found/\x.num=p.num/\SlY 206 w (.slice x.s.a x.s.n x.s.c) p.hits
theorem zJ5{w:World}{f:Bool}{d:Int}:AnsS w (agg (⟨f,d,⟨none,0,0⟩⟩:AnsD)) ⟨f,d,[]⟩:=⟨⟨f,d,⟨none,0,0⟩⟩,rfl,rfl,rfl,SlY.nil _ _⟩
def VaP (x y:StD):Prop:=x.key.dir=0/\y.key.dir=1/\y.key.v=x.key.v
def Cnd (S:List StD) (i k:Nat) (m:Int):Prop:=(∃x∈S.take i,∃y∈S,VaP x y/\m=x.d+y.d)\/(∃x,S[i]? = some x/\∃y∈S.take k,VaP x y/\m=x.d+y.d)
def Bst (C:Int->Prop) (f:Bool) (d:Int):Prop:=(f=false/\d=0/\∀m,¬C m)\/(f=true/\C d/\∀m,C m->d<=m)
theorem Bst.congr{C p:Int->Prop}{f:Bool}{d:Int}(h:Bst C f d)(e:∀m,p m↔C m):Bst p f d:=by
 rcases h with ⟨b,c,l⟩|⟨b,c,l⟩
 ·exact .inl ⟨b,c,λm o=>l m ((e m).1 o)⟩
 ·exact .inr ⟨b,(e d).2 c,λm o=>l m ((e m).1 o)⟩
theorem zOS{S:List StD}(hi:i<S.length)(m:Int):Cnd S (i+1) 0 m↔Cnd S i S.length m:=by
 unfold Cnd;rw [take_add hi,Qg];simp only [Xa,Xf,false_and,exists_false,and_false,or_false,Qd hi,JK];constructor
 ·rintro⟨x,b,h⟩;have c:=Qf.1 b;rcases c with b|b
  ·exact .inl ⟨x,b,h⟩
  ·exact .inr ⟨x,(Qc.1 b).symm,h⟩
 ·rintro(⟨x,b,h⟩|⟨x,b,h⟩)
  ·exact⟨x,QN _ b,h⟩
  ·exact⟨x,JJ _ (Qc.2 b.symm),h⟩
theorem zOT{S:List StD}(hi:i<S.length)(c:k<S.length)(m:Int):Cnd S i (k+1) m↔Cnd S i k m\/(VaP S[i] S[k]/\m=S[i].d+S[k].d):=by
 unfold Cnd;rw [take_add c,or_assoc];refine or_congr Iff.rfl ?_;simp only [Qd hi,JK];constructor
 ·rintro⟨x,rfl,y,b,h⟩;have e:=Qf.1 b;rcases e with b|b
  ·exact .inl ⟨_,rfl,y,b,h⟩
  ·rw [Qc.1 b] at h;exact .inr h
 ·rintro(⟨x,rfl,y,b,h⟩|h)
  ·exact⟨_,rfl,y,QN _ b,h⟩
  ·exact⟨_,rfl,_,JJ _ (Qc.2 rfl),h⟩
theorem zP2{S:List StD}(m:Int):Cnd S S.length 0 m↔m∈sums S:=by
 rw [zDa];unfold Cnd;rw [Qg];simp only [Xa,Xf,false_and,exists_false,and_false,or_false,VaP,and_assoc]
theorem zON{S M:List StD}{f:Bool}{d:Int}(h:Bst (Cnd S S.length 0) f d):(f=true/\distL S M=(⟨true,d,[]⟩,true))\/(f=false/\d=0/\distL S M=(zAn,!hasDir M 0 || !hasDir M 1)):=by
 have h:=h.congr λm=>(zP2 (S:=S) m).symm;rcases h with ⟨b,c,e⟩|⟨b,c,e⟩
 ·right;refine⟨b,c,?_⟩;unfold distL;rw [zJf.2 (List.eq_nil_iff_forall_not_mem.2 e)]
 ·left;refine⟨b,?_⟩;unfold distL;rw [zFt.2 ⟨c,e⟩]
abbrev ans3 (f:Bool) (d:Int):List Value:=[.bool f,.int .i64 d,.slice none 0 0]
theorem zGV(f:Bool)(d:Int):∀u∈ans3 f d,u.oneCell'=true:=by intro u b;simp at b;rcases b with rfl|rfl|rfl <;> rfl
theorem zL0{c c2:Nat}{S M:List StD}{w:World}(h:SlF w (.slice a n c) S)(h2:SlF w (.slice a2 n2 c2) M)(hn:S.length<=1000)(K:M.length<=1000000)(hd:∀x∈S,0<=x.d/\x.d<=1000):
  Sp PP 219 #[.slice a n c,.slice a2 n2 c2] w λv w'=>(∃v1,v=.tuple #[v1,.bool (distL S M).2]/\AnsS w' v1 (distL S M).1)/\Stp w w':=by
 have l:=h.len;obtain rfl:=l;refine eN ?_;refine ral λO w1 n1 z1=>ral λQ w2 n2 z2=>?_;have a8:=n1.b;have a9:=n1.s;have b0:=n2.b;have b2:=n2.s;have C:Bk w2 O (ans3 false 0) 65:=Bk.mv (w:=w2) z1;have A2:Bk w2 Q (ans3 false 0) 65:=z2;have T:∀i,i=Q->w.heap.size<=i:=by omega
 have a0:∀i,i=O->w.heap.size<=i:=by omega
 have E:¬O=Q:=by omega
 refine cN 8 [] 7 S.length (λi u=>(∃f d,Bk u Q (ans3 f d) 65/\Bst (Cnd S i 0) f d/\0<=d/\d<=2000)/\Bk u O (ans3 false 0) 65/\Stp w u) ⟨⟨false,0,A2,.inl ⟨rfl,rfl,λm K=>by
  rcases K with ⟨x,hx,_⟩|⟨x,_,y,hy,_⟩
  ·simp at hx
  ·simp at hy⟩,by omega,by omega⟩,C,stp⟩ ?_
 clear C A2 z1 z2;rintro i gf u hi ⟨⟨f,d,A,W,p,r⟩,R,e⟩;refine ite (λhlt=>?_) (λb3=>?_)
 case' refine_2 =>
  have l:i=S.length:=by omega
  obtain rfl:=l;have X:=zON (M:=M) W;refine dD (λi=>i=O) (upF 15 0) λu1 e1=>tldG (ds:=ans3 f d) (B:=A) rfl rfl (λh=>E h.symm) (tX A rfl (λh=>E h.symm) ?_);have R1:=R.mv (w:=u1);rcases X with ⟨rfl,X⟩|⟨rfl,rfl,X⟩
  ·have l:∃o,o=true:=⟨_,rfl⟩;obtain⟨o,F⟩:=l;have G:(distL S M).2=true:=by rw [X]
   have hA:∀u,AnsS u (agg (⟨o,d,⟨none,0,0⟩⟩:AnsD)) (distL S M).1:=λu=>by rw [X,F];exact zJ5
   have l:∃H,H=u1:=⟨_,rfl⟩;obtain⟨H,I⟩:=l;refine rsto (B:=R1) (vs:=ans3 o d) (by rw [F];rfl) rfl rfl (zGV _ _) λL C Y _=>⟨Y,?_⟩;subst I;have C:Bk L O (ans3 o d) 65:=C;refine rresG (B:=C) rfl ?_;exact⟨⟨agg (⟨o,d,⟨none,0,0⟩⟩:AnsD),congrArg (λb=>Value.tuple #[agg (⟨o,d,⟨none,0,0⟩⟩:AnsD),.bool b]) G.symm,hA _⟩,⟨Fr.st (lE w H) Y a0⟩⟩
  ·have l:∃d:Int,d=0:=⟨_,rfl⟩;obtain⟨d,a1⟩:=l;have l:∃o,o=false:=⟨_,rfl⟩;obtain⟨o,F⟩:=l;have hA:∀u,AnsS u (agg (⟨o,d,⟨none,0,0⟩⟩:AnsD)) (distL S M).1:=λu=>by rw [X,F,a1];exact zJ5
   refine rcall (zHY (d:=0) (h2.up (w':=u1)) K) ?_;rintro _ u3 ⟨rfl,e3⟩;refine⟨Fr.fr e3.e,?_⟩;cases h0:hasDir M 0
   ·have G:(distL S M).2=true:=by rw [X,h0];rfl
    have l:∃H,H=u3:=⟨_,rfl⟩;obtain⟨H,I⟩:=l;refine rsto (B:=R1.mv (w:=u3)) (vs:=ans3 o d) (by rw [F,a1];rfl) rfl rfl (zGV _ _) λL C Y _=>⟨Y,?_⟩;subst I;have C:Bk L O (ans3 o d) 65:=C;refine rresG (B:=C) rfl ?_;exact⟨⟨agg (⟨o,d,⟨none,0,0⟩⟩:AnsD),congrArg (λb=>Value.tuple #[agg (⟨o,d,⟨none,0,0⟩⟩:AnsD),.bool b]) G.symm,hA _⟩,⟨Fr.st (lE w H) Y a0⟩⟩
   refine rcall (zHY (d:=1) (h2.up (w':=u3)) K) ?_;rintro _ u4 ⟨rfl,e4⟩;refine⟨Fr.fr e4.e,?_⟩;cases h1:hasDir M 1
   all_goals
    have G:(distL S M).2 = !hasDir M 1:=by rw [X,h0];rfl
    rw [h1] at G;have l:∃H,H=u4:=⟨_,rfl⟩;obtain⟨H,I⟩:=l;refine rsto (B:=R1.mv (w:=u4)) (vs:=ans3 o d) (by rw [F,a1];rfl) rfl rfl (zGV _ _) λL C Y _=>⟨Y,?_⟩;subst I;have C:Bk L O (ans3 o d) 65:=C;refine rresG (B:=C) rfl ?_;exact⟨⟨agg (⟨o,d,⟨none,0,0⟩⟩:AnsD),congrArg (λb=>Value.tuple #[agg (⟨o,d,⟨none,0,0⟩⟩:AnsD),.bool b]) G.symm,hA _⟩,⟨Fr.st (lE w H) Y a0⟩⟩
 have a4:i<S.length:=by omega
 refine cN 9 [] 8 S.length (λk u'=>(∃f d,Bk u' Q (ans3 f d) 65/\Bst (Cnd S i k) f d/\0<=d/\d<=2000)/\Bk u' O (ans3 false 0) 65/\Stp w u') ⟨⟨f,d,A,W,p,r⟩,R,e⟩ ?_;clear A R W p r e;clear f d;rintro k b4 L hk ⟨⟨f,d,A,W,p,r⟩,R,e⟩;refine ite (λa6=>?_) (λa7=>?_)
 case' refine_2 =>
  have l:k=S.length:=by omega
  obtain rfl:=l;exact rA ⟨rfl,by omega,⟨f,d,A,W.congr (zOS a4),p,r⟩,R,e⟩
 have t:k<S.length:=by omega
 have b5:=hd _ (Qa a4);have b6:=hd _ (Qa t);have z:=zOT a4 t;refine rix (h.up (w':=L)) (x:=S[i]) (by simp) λb1 o1 A1=>rloadA A1 rfl (ral λbx w3 n3 z3=>rE z3 (S[i]) λw4 X4 f4 _=>?_);have X4:Bk w4 bx (enc S[i]) 222:=X4;have s4:Stp L w4:=n3.st f4;refine rix (h.up (w':=w4)) (x:=S[k]) (by simp) λb1 o1 A1=>rloadA A1 rfl (ral λa5 w5 n5 z5=>rE z5 (S[k]) λZ Y6 f6 _=>?_);have Y6:Bk Z a5 (enc S[k]) 222:=Y6;have s6:Stp w4 Z:=n5.st f6;have U:=A.mv (w:=Z);have R6:=R.mv (w:=Z);have no:¬VaP S[i] S[k]->Bst (Cnd S i (k+1)) f d:=λhv=>W.congr λm=>(z m).trans ⟨λh=>h.elim id λh=>absurd h.1 hv,.inl⟩;refine rld (B:=X4) (v:=.int .i64 S[i].key.dir) rfl (ite (λh3=>?_) (λh3=>rA ⟨rfl,t,⟨f,d,U,no λh=>h3 h.1,p,r⟩,R6,stp⟩));refine rld (B:=Y6) (v:=.int .i64 S[k].key.dir) rfl (ite (λh4=>?_) (λh4=>rA ⟨rfl,t,⟨f,d,U,no λh=>h4 h.2.1,p,r⟩,R6,stp⟩));refine rld (B:=X4) (v:=.int .i64 S[i].key.v) rfl (rld (B:=Y6) (v:=.int .i64 S[k].key.v) rfl ?_);refine ite (λh5=>?_) (λh5=>rA ⟨rfl,t,⟨f,d,U,no λh=>h5 h.2.2.symm,p,r⟩,R6,stp⟩);have hv:VaP S[i] S[k]:=⟨h3,h4,h5.symm⟩;have b7:=A.lt;have b8:=n3.lo (u:=L);have b9:=n5.lo (u:=L);cases f
 ·have J:Bst (Cnd S i (k+1)) true (S[i].d+S[k].d):=by
   rcases W with ⟨_,_,h9⟩|⟨h9,_⟩
   ·refine .inr ⟨rfl,(z _).2 (.inr ⟨hv,rfl⟩),λm K=>?_⟩;have l:=(z m).1 K;rcases l with h8|h8
    ·exact absurd h8 (h9 m)
    ·omega
   ·cases h9
  refine rld (B:=U) (v:=.bool false) rfl (rS U [.bool true] (zAj _) λw7 A7 V _=>?_);have A7:Bk w7 Q (ans3 true d) 65:=A7;have X7:=(X4.mv (w:=Z)).fr V (by omega);have Y7:=Y6.fr V (by omega);have R7:=R6.fr V E;refine rld (B:=X7) (v:=.int .i64 S[i].d) rfl (rld (B:=Y7) (v:=.int .i64 S[k].d) rfl ?_);refine rA (rS A7 [.int .i64 (S[i].d+S[k].d)] (zAa _) λw8 A8 f8 _=>?_);have A8:Bk w8 Q (ans3 true (S[i].d+S[k].d)) 65:=A8;have s8:Stp w w8:=⟨Fr.st (Fr.st (lE w Z) V T) f8 T⟩;exact rA ⟨rfl,t,⟨true,_,A8,J,by omega,by omega⟩,R7.fr f8 E,s8⟩
 ·have hb:Cnd S i k d/\∀m,Cnd S i k m->d<=m:=by
   rcases W with ⟨h9,_⟩|⟨_,h9⟩
   ·cases h9
   ·exact h9
  refine rld (B:=U) (v:=.bool true) rfl (rld (B:=X4) (v:=.int .i64 S[i].d) rfl (rld (B:=Y6) (v:=.int .i64 S[k].d) rfl ?_));refine rA (rld (B:=U) (v:=.int .i64 d) rfl (ite (λh6=>?_) (λh6=>?_)))
  ·have J:Bst (Cnd S i (k+1)) true (S[i].d+S[k].d):=.inr ⟨rfl,(z _).2 (.inr ⟨hv,rfl⟩),λm K=>by
    have l:=(z m).1 K;rcases l with h8|h8
    ·have:=hb.2 m h8;omega
    ·omega⟩
   refine rS U [.bool true] (zAj _) λw7 A7 V _=>?_;have A7:Bk w7 Q (ans3 true d) 65:=A7;have X7:=(X4.mv (w:=Z)).fr V (by omega);have Y7:=Y6.fr V (by omega);have R7:=R6.fr V E;refine rld (B:=X7) (v:=.int .i64 S[i].d) rfl (rld (B:=Y7) (v:=.int .i64 S[k].d) rfl ?_);refine rA (rS A7 [.int .i64 (S[i].d+S[k].d)] (zAa _) λw8 A8 f8 _=>?_);have A8:Bk w8 Q (ans3 true (S[i].d+S[k].d)) 65:=A8;have s8:Stp w w8:=⟨Fr.st (Fr.st (lE w Z) V T) f8 T⟩;exact rA ⟨rfl,t,⟨true,_,A8,J,by omega,by omega⟩,R7.fr f8 E,s8⟩
  ·exact rA ⟨rfl,t,⟨true,d,U,.inr ⟨rfl,(z _).2 (.inl hb.1),λm K=>by
    have l:=(z m).1 K;rcases l with h8|h8
    ·exact hb.2 m h8
    ·omega⟩,p,r⟩,R6,stp⟩
theorem zLF{k:Int}(h:1<=k)(l:List HitD):firstK k l=(srtH l).take k.toNat:=by
 have b:∃n:Nat,k=(n:Int):=⟨k.toNat,by omega⟩;obtain⟨n,rfl⟩:=b;unfold firstK;rw [if_neg (by omega),zGu];simp
theorem zLW{c:Nat}{l:List HitD}{k:Int}{w:World}(h:SlF w (.slice a n c) l)(f:l.length<=1000)(o:1<=k):
  Sp PP 306 #[.slice a n c,.int .i64 k] w λv w'=>(∃b d,v=.slice b (firstK k l).length d/\SlY 206 w' v (firstK k l))/\Stp w w':=
 (zKU h f).mono λv w' ⟨⟨b,d,e,y⟩,s⟩=>by
  rw [if_neg (by omega),<-zLF o] at e y;exact⟨⟨b,d,e,y⟩,s⟩
theorem zNr{pl:List Int}{S:List StD}(h:i<S.length):hitsL pl (S.take (i+1))=if S[i].key.dir=0/\S[i].key.v∈pl then hitsL pl (S.take i)++[⟨S[i].key.v,S[i].d⟩] else hitsL pl (S.take i):=by
 unfold hitsL;rw [take_add h,QV,QB];by_cases e:S[i].key.dir=0/\S[i].key.v∈pl
 ·rw [if_pos e,JL (by simp [e.1,e.2])];rfl
 ·rw [if_neg e,Jw (by simpa using e)];simp
theorem zL1{xq:RQ}{ws:List ByteArray}{ps:List RPo}{c c2:Nat}{S:List StD}{w:World}(V:QyV w xq q)(hq:QyOk q g.n)(h3:q.kind=3)(hg:GrIs g)(h:SlF w (.slice a n c) ps)(Mp:PosM w g ws ps)(R:ps.length<=100000)
  (I:SlF w (.slice a2 n2 c2) S)(a6:S.length<=1000):
  Sp PP 220 #[agg xq,.slice a n c,.slice a2 n2 c2] w λv w'=>AnsS w' v ⟨!(firstK q.most (hitsL (placesL g q.words) S)).isEmpty,0,firstK q.most (hitsL (placesL g q.words) S)⟩/\Stp w w':=by
 have o:=I.len;obtain rfl:=o;have T:=hq.near h3
 have a7:(placesL g q.words).length<=200:=by
  unfold placesL;rw [Qr];exact Qw (Qv _ _) (by rw [Vm];exact hg.ok.n2)
 refine eN ?_;refine rbx λbq w1 n1 Bq=>ral λU J n2 z2=>?_;have a8:=n1.b;have a9:=n1.s;have b0:=n2.b;have b2:=n2.s;have R2:Bk J U (ans3 false 0) 65:=z2;have W:∀i,i=U->w.heap.size<=i:=by omega
 refine rld (B:=Bq) (v:=.slice xq.words.a xq.words.n xq.words.c) rfl (rcall (zNB (h.up (w':=J)) (Mp.up (w':=J)) hg R (V.ws.up (w':=J)) (by intro h0;have:=T.1;rw [h0] at this;simp at this) (by omega)) ?_);rintro _ A ⟨⟨v3,rfl,O3⟩,e3⟩;have o:=O3.shape;obtain⟨pa,pc,rfl⟩:=o;refine cO 11 [] 9 10 S.length (λi v u=>Own A.heap.size 206 u v (hitsL (placesL g q.words) (S.take i))/\Stp A u) ⟨Own.nil _ _ _,stp⟩ ?_;rintro i v gf u hi ⟨O,e⟩;have o:=O.shape;obtain⟨oa,oc,rfl⟩:=o;have X:=zFp (placesL g q.words) (S.take i);rw [Qm] at X;refine ite (λhlt=>?_) (λb3=>?_)
 case' refine_2 =>
  refine rld (B:=Bq) (v:=.int .i64 q.most) (by rw [<-V.most];rfl) (rcall (zLW (k:=q.most) O.sl (by omega) (by omega)) ?_);rintro _ u1 ⟨⟨C,E,rfl,Y⟩,e1⟩;have Z:S.take i=S:=Qj (by omega);have o:∃t,t=firstK q.most (hitsL (placesL g q.words) (S.take i)):=⟨_,rfl⟩;obtain⟨t,K⟩:=o;have F:t=firstK q.most (hitsL (placesL g q.words) S):=by rw [K,Z]
  refine ite (λp=>?_) (λp=>?_)
  case' refine_1 =>
   have o:∃b,b=true:=⟨_,rfl⟩;obtain⟨b,L⟩:=o;have G:b = !t.isEmpty:=by rw [L];rw [<-K] at p;cases t with|nil=>simp at p|cons x r=>rfl
  case' refine_2 =>
   have o:∃b,b=false:=⟨_,rfl⟩;obtain⟨b,L⟩:=o;have G:b = !t.isEmpty:=by rw [L];rw [<-K] at p;cases t with|nil=>rfl|cons x r=>simp at p
  all_goals
   refine rbuild (cs:=[.bool b,.int .i64 0,.slice C (firstK q.most (hitsL (placesL g q.words) (S.take i))).length E]) (by rw [L];rfl) ?_;have R3:=R2.mv (w:=u1);refine rS R3 [.bool b,.int .i64 0,.slice C (firstK q.most (hitsL (placesL g q.words) (S.take i))).length E] (by intro u hu;simp at hu;rcases hu with rfl|rfl|rfl <;> rfl) λu2 R4 f4 _=>?_;have R4:Bk u2 U [.bool b,.int .i64 0,.slice C (firstK q.most (hitsL (placesL g q.words) (S.take i))).length E] 65:=R4;refine rresG (B:=R4) rfl ?_
   have Y2:SlY 206 u2 (.slice C (firstK q.most (hitsL (placesL g q.words) (S.take i))).length E) (firstK q.most (hitsL (placesL g q.words) S)):=by
    rw [<-F,K]
    exact(Y.fr f4 λb' cs z _ hc hd=>by
     have hr:=R3.h;rw [<-hd] at hr;rw [hr] at hc;cases hc)
   exact⟨⟨⟨b,0,⟨C,_,E⟩⟩,rfl,by rw [G,F],rfl,Y2⟩,⟨Fr.st (lE w u1) f4 W⟩⟩
 have f:i<S.length:=by omega
 have l:=zNr (pl:=placesL g q.words) f;have z3:=lz w A;refine rix (I.up (w':=u)) (x:=S[i]) (by simp) λb1 o1 A1=>rloadA (cs:=enc S[i].key) (A1.sub 0 3) rfl (ral λbk w5 n5 z5=>rE z5 (S[i].key) λM y f6 _=>?_);have y:Bk M bk (enc S[i].key) 209:=y;have s6:Stp u M:=n5.st f6;have O6:=O.up (w':=M);refine rld (B:=y) (v:=.int .i64 S[i].key.dir) rfl (ite (λp=>?_) (λp=>?_))
 case' refine_2 =>
  rw [if_neg λh=>p h.1] at l;exact rA ⟨rfl,f,by rw [l];exact O6,stp⟩
 refine rld (B:=y) (v:=.int .i64 S[i].key.v) rfl (rcall (zJm (x:=S[i].key.v) (O3.sl.up (w':=M)) (by omega)) ?_);rintro _ w7 ⟨⟨rfl,h6⟩|⟨rfl,h6⟩,e7⟩
 case' inr =>
  rw [if_neg λh=>h6 h.2] at l;exact rA ⟨rfl,f,by rw [l];exact O6.up,stp⟩
 rw [if_pos ⟨p,h6⟩] at l;refine dD (ownD A.heap.size (.slice oa (hitsL (placesL g q.words) (S.take i)).length oc)) (upF 12 0) λQ e8=>?_;have O8:=O6.up (w':=Q);refine tld (B:=y.mv (w:=Q)) (v:=.int .i64 S[i].key.v) rfl ((y.mv (w:=Q)).notOwn O8) ?_
 refine tix (I.up (w':=Q)) (x:=S[i]) (by simp) λb9 o9 A9 h9=>tload1 (A9.cell 3 rfl) (λhd=>by
  obtain⟨b',h7,h8⟩:=I.lt (by intro h0;rw [h0] at f;simp at f);rw [h9] at h7;cases h7;have:=hd.1;omega) ?_
 refine tbuild (cs:=enc (⟨S[i].key.v,S[i].d⟩:HitD)) rfl (bS (⟨S[i].key.v,S[i].d⟩:HitD) λb4 a0 a1 _ a4=>⟨Fr.fr a1.e,?_⟩);refine rapp1 (u:=A) ⟨rfl,rfl⟩ (O8.up (w':=a0)) a4 (by omega) λb5 b6 H a5 b7=>⟨a5,?_⟩;rw [<-l] at H;exact rA ⟨rfl,f,H,stp⟩
theorem zLX{xq:RQ}{ws:List ByteArray}{ps:List RPo}{c c2 c3:Nat}{S M:List StD}{w:World}(V:QyV w xq q)(hq:QyOk q g.n)(hg:GrIs g)(h:SlF w (.slice a n c) ps)(Mp:PosM w g ws ps)(a4:ps.length<=100000)
  (h2:SlF w (.slice a2 n2 c2) S)(a0:S.length<=1000)(a5:∀x∈S,0<=x.d/\x.d<=1000)(h3:SlF w (.slice a3 n3 c3) M)(a7:M.length<=1000):
  Sp PP 122 #[agg xq,.slice a n c,.slice a2 n2 c2,.slice a3 n3 c3] w λv w'=>(∃v1,v=.tuple #[v1,.bool (doneL g q S M).2]/\AnsS w' v1 (doneL g q S M).1)/\Stp w w':=by
 have F:=h3.len;obtain rfl:=F;have F:=h2.len;obtain rfl:=F;have a8:=hq.kind;have k1:=V.kind;refine eN ?_;refine rbx λbq w1 n1 Bq=>ral λT W n2 z2=>?_;have a9:=n1.b;have b0:=n1.s;have b2:=n2.b;have b3:=n2.s;have R2:Bk W T (ans3 false 0) 65:=z2;have J:∀i,i=T->w.heap.size<=i:=by omega
 refine rld (B:=Bq) (v:=.int .i64 q.kind) (by rw [<-k1];rfl) (ite (λh4=>?_) (λh4=>?_))
 ·have o:doneL g q S M=distL S M:=if_pos h4;refine rcall (zL0 (h2.up (w':=W)) (h3.up (w':=W)) a0 (by omega) a5) ?_;rintro _ A ⟨⟨_,rfl,⟨f,rfl,h5,C,K⟩⟩,e3⟩;have E:=R2.mv (w:=A);rw [<-o] at h5 C K;have p:(doneL g q S M).2=(distL S M).2:=by rw [o]
  have Q:=h5;have R:=C;refine rE E f λL t G _=>?_;have t:Bk L T (enc f) 65:=t;refine rresG (B:=t) rfl ?_
  have O:=K.fr G λb' cs z _ H hd=>by
   have I:=E.h;rw [<-hd] at I;rw [I] at H;cases H
  exact⟨⟨agg f,congrArg (λb=>Value.tuple #[agg f,.bool b]) p.symm,⟨f,rfl,Q,R,O⟩⟩,⟨Fr.st (lE w A) G J⟩⟩
 refine rld (B:=Bq) (v:=.int .i64 q.kind) (by rw [<-k1];rfl) (ite (λh5=>?_) (λh5=>?_))
 ·have o:doneL g q S M=reachL q.to S M:=by unfold doneL;rw [if_neg h4,if_pos h5]
  refine cN 11 [9] 10 S.length (λk u=>(∀y∈S.take k,¬(y.key.dir=0/\y.key.v=q.to))/\Bk u T (ans3 false 0) 65/\Stp w1 u) ⟨by simp,R2,stp⟩ ?_;rintro k gf A hk ⟨hb,E,e⟩;refine ite (λhlt=>?_) (λb4=>?_)
  ·have U:k<S.length:=by omega
   have nx:¬(S[k].key.dir=0/\S[k].key.v=q.to)->∀y∈S.take (k+1),¬(y.key.dir=0/\y.key.v=q.to):=λC y X=>by
    rw [take_add U] at X;have F:=Qf.1 X;rcases F with X|X
    ·exact hb y X
    ·rw [Qc.1 X];exact C
   refine dQ 18 λu5 e5=>tix (h2.up (w':=u5)) (x:=S[k]) (by simp) λb1 o1 A1 _=>tload1 (A1.cell 1 rfl) nf (ite (λC=>?_) (λC=>rA ⟨rfl,U,nx λh=>C h.1,E.mv,stp⟩));refine tix (h2.up (w':=u5)) (x:=S[k]) (by simp) λb1 o1 A1 _=>tload1 (A1.cell 2 rfl) nf (tld (B:=Bq) (v:=.int .i64 q.to) (by rw [<-V.to];rfl) nf (ite (λh7=>?_) (λh7=>rA ⟨rfl,U,nx λh=>h7 h.2,E.mv,stp⟩)));have Y:reachL q.to S M=(⟨true,0,[]⟩,true):=if_pos (Vi.2 ⟨_,Qa U,decide_eq_true ⟨C,h7⟩⟩);rw [Y] at o;have E:=E.mv (w:=u5);have F:∃A,A=u5:=⟨_,rfl⟩;obtain⟨A,Z⟩:=F;have F:∃f,f=(⟨true,0,⟨none,0,0⟩⟩:AnsD):=⟨_,rfl⟩;obtain⟨f,l⟩:=F;have p:(doneL g q S M).2=true:=by rw [o]
   have Q:f.found=(doneL g q S M).1.found:=by rw [o,l]
   have R:f.num=(doneL g q S M).1.num:=by rw [o,l]
   have K:SlY 206 A (.slice f.s.a f.s.n f.s.c) (doneL g q S M).1.hits:=by rw [o,l];exact SlY.nil _ _
   subst Z;refine rbuild (cs:=enc f) (by rw [l];rfl) (rE E f λL t G _=>?_);have t:Bk L T (enc f) 65:=t;refine rresG (B:=t) rfl ?_
   have O:=K.fr G λb' cs z _ H hd=>by
    have I:=E.h;rw [<-hd] at I;rw [I] at H;cases H
   exact⟨⟨agg f,congrArg (λb=>Value.tuple #[agg f,.bool b]) p.symm,⟨f,rfl,Q,R,O⟩⟩,⟨Fr.st (lE w A) G J⟩⟩
  ·have a6:k=S.length:=by omega
   rw [a6,Qg] at hb
   have Y:reachL q.to S M=(zAn,M.isEmpty):=if_neg λh=>by
    have F:=Vi.1 h;obtain⟨y,X,C⟩:=F;exact hb y X (of_decide_eq_true C)
   rw [Y] at o;have F:∃f,f=(⟨false,0,⟨none,0,0⟩⟩:AnsD):=⟨_,rfl⟩;obtain⟨f,l⟩:=F;have Q:f.found=(doneL g q S M).1.found:=by rw [o,l];rfl
   have R:f.num=(doneL g q S M).1.num:=by rw [o,l];rfl
   have K:SlY 206 A (.slice f.s.a f.s.n f.s.c) (doneL g q S M).1.hits:=by rw [o,l];exact SlY.nil _ _
   refine rbuild (cs:=enc f) (by rw [l];rfl) (ite (λC=>?_) (λC=>?_))
   ·have p:(doneL g q S M).2=true:=by rw [o];exact List.isEmpty_iff.2 (Qn (by omega))
    refine rE E f λL t G _=>?_;have t:Bk L T (enc f) 65:=t;refine rresG (B:=t) rfl ?_
    have O:=K.fr G λb' cs z _ H hd=>by
     have I:=E.h;rw [<-hd] at I;rw [I] at H;cases H
    exact⟨⟨agg f,congrArg (λb=>Value.tuple #[agg f,.bool b]) p.symm,⟨f,rfl,Q,R,O⟩⟩,⟨Fr.st (lE w A) G J⟩⟩
   ·have p:(doneL g q S M).2=false:=by rw [o];cases M with|nil=>simp at C|cons x r=>rfl
    refine rE E f λL t G _=>?_;have t:Bk L T (enc f) 65:=t;refine rresG (B:=t) rfl ?_
    have O:=K.fr G λb' cs z _ H hd=>by
     have I:=E.h;rw [<-hd] at I;rw [I] at H;cases H
    exact⟨⟨agg f,congrArg (λb=>Value.tuple #[agg f,.bool b]) p.symm,⟨f,rfl,Q,R,O⟩⟩,⟨Fr.st (lE w A) G J⟩⟩
 refine rld (B:=Bq) (v:=.int .i64 q.kind) (by rw [<-k1];rfl) (iF (by omega) ?_);have a1:q.kind=3:=by omega
 have o:doneL g q S M=nearL (placesL g q.words) q.most S M:=by unfold doneL;rw [if_neg h4,if_neg h5,if_pos a1]
 refine ite (λC=>?_) (λC=>?_)
 ·have Y:nearL (placesL g q.words) q.most S M=(zAn,false):=if_neg (by cases M with|nil=>simp at C|cons x r=>simp);rw [Y] at o;have F:∃A,A=W:=⟨_,rfl⟩;obtain⟨A,Z⟩:=F;have F:∃f,f=(⟨false,0,⟨none,0,0⟩⟩:AnsD):=⟨_,rfl⟩;obtain⟨f,l⟩:=F;have p:(doneL g q S M).2=false:=by rw [o]
  have Q:f.found=(doneL g q S M).1.found:=by rw [o,l];rfl
  have R:f.num=(doneL g q S M).1.num:=by rw [o,l];rfl
  have K:SlY 206 A (.slice f.s.a f.s.n f.s.c) (doneL g q S M).1.hits:=by rw [o,l];exact SlY.nil _ _
  have E:=R2;subst Z;refine rbuild (cs:=enc f) (by rw [l];rfl) (rE E f λL t G _=>?_);have t:Bk L T (enc f) 65:=t;refine rresG (B:=t) rfl ?_
  have O:=K.fr G λb' cs z _ H hd=>by
   have I:=E.h;rw [<-hd] at I;rw [I] at H;cases H
  exact⟨⟨agg f,congrArg (λb=>Value.tuple #[agg f,.bool b]) p.symm,⟨f,rfl,Q,R,O⟩⟩,⟨Fr.st (lE w A) G J⟩⟩
 ·have Y:nearL (placesL g q.words) q.most S M=(⟨!(firstK q.most (hitsL (placesL g q.words) S)).isEmpty,0,firstK q.most (hitsL (placesL g q.words) S)⟩,true):=if_pos (by cases M with|nil=>rfl|cons x r=>simp at C);rw [Y] at o;refine rG Bq xq (rcall (zL1 (V.up (w':=W)) hq a1 hg (h.up (w':=W)) (Mp.up (w':=W)) a4 (h2.up (w':=W)) a0) ?_);rintro _ A ⟨⟨f,rfl,h7,h8,K⟩,e3⟩;have E:=R2.mv (w:=A);have p:(doneL g q S M).2=true:=by rw [o]
  have Q:f.found=(doneL g q S M).1.found:=by rw [o];exact h7
  have R:f.num=(doneL g q S M).1.num:=by rw [o];exact h8
  have K:SlY 206 A (.slice f.s.a f.s.n f.s.c) (doneL g q S M).1.hits:=by rw [o];exact K
  refine rE E f λL t G _=>?_;have t:Bk L T (enc f) 65:=t;refine rresG (B:=t) rfl ?_
  have O:=K.fr G λb' cs z _ H hd=>by
   have I:=E.h;rw [<-hd] at I;rw [I] at H;cases H
  exact⟨⟨agg f,congrArg (λb=>Value.tuple #[agg f,.bool b]) p.symm,⟨f,rfl,Q,R,O⟩⟩,⟨Fr.st (lE w A) G J⟩⟩
theorem zLK(f S:List StD)(x:StD):insAll (f++[x]) S=insS x (insAll f S):=by unfold insAll;rw [VF];rfl
theorem zNt(f S:List StD):(insAll f S).length=S.length+f.length:=by rw [(zBf f S).length_eq,Qb]
theorem zL3{T:RRow}{r:List EdN}{xq:RQ}{c c2 W:Nat}{S M:List StD}{w:World}(C:GrIs g)(R:RwF w T g r)(a0:xq.kind=q.kind/\xq.rad=q.rad)
  (E:SlF w (.slice a n c) S)(hM:SlF w (.slice a2 n2 c2) M)(hr:SRis S)(F:∀x∈S,mayX x/\x.key.v<g.n)(A:∀x∈M,mayX x/\x.key.v<g.n)(hW:1<=W/\W<=16)(b0:S.length<=500)(b3:M.length<=450):
  Sp PP 119 #[agg xq,agg T,.slice a n c,.slice a2 n2 c2,.int .i64 (W:Int)] w λv w'=>(∃G H,v=.tuple #[G,H,.int .i64 0]/\Own w.heap.size 222 w' G (stepL g q S M).1/\Own w.heap.size 211 w' H (stepL g q S M).2)/\Stp w w':=by
 have b4:=C.ok.n2;have l1:=R.off.len;have q1:=zAp g.n g.es;refine eN ?_;refine rbx λb1 w1 n1 B1=>rbx λb2 w2 n2 B2=>rG B2 T (rcall (zB3 C (R.up (w':=w2))) ?_);rintro _ w3 ⟨rfl,e3⟩;refine rcall (zKX (E.up (w':=w3)) (by omega) hr λx t=>(F x t).1) ?_;rintro _ w4 ⟨rfl,e4⟩;refine rcall (zKV (hM.up (w':=w4)) (by omega) λx t=>(A x t).1) ?_;rintro _ w5 ⟨rfl,e5⟩;refine rX B2 rfl (rarE (y:=((g.n:Nat):Int)) (by omega) (by omega) (rcall (zJL (N:=g.n) (E.up (w':=w5)) (hM.up (w':=w5)) (by omega) (by omega) (λx t=>(F x t).2) λx t=>(A x t).2) ?_));rintro _ w6 ⟨rfl,e6⟩;refine iF (by omega) (iF (by omega) (rcall (zFD (E.up (w':=w6)) (hM.up (w':=w6)) (by omega) (by omega)) ?_));rintro _ p ⟨I,e7⟩;have z:∃f,f=freshL S M:=⟨_,rfl⟩;obtain⟨f,U⟩:=z;have b5:f.length<=M.length:=by rw [U];exact zNp S M
 have a1:∀x∈f,mayX x/\x.key.v<g.n:=λx t=>by rw [U] at t;exact A x (zDw.1 t).1.1
 rw [<-U] at I;have z:=I.shape;obtain⟨fa,fc,rfl⟩:=z;have a8:=E.len;refine rapp (u:=p) ⟨rfl,rfl⟩ (Own.nil _ 222 _) (E.up (w':=p)) (by simp;omega) λv8 w8 O8 f8 s8=>?_;rw [Je] at O8;refine cP 17 [10,11,12] 14 15 16 f.length (λk G H u=>Own p.heap.size 222 u G (insAll (f.take k) S)/\Own p.heap.size 211 u H ((f.take k).flatMap (nextL g q))/\Stp p u) ⟨O8,Own.nil _ _ _,stp⟩ ?_;rintro k G H gf u hk ⟨V,X,e⟩;have z:=V.shape;obtain⟨na,nc,rfl⟩:=z;have z:=X.shape;obtain⟨sa,sc,rfl⟩:=z
 have b6:((f.take k).flatMap (nextL g q)).length<=900000:=by
  have h1:=zDp (f:=nextL g q) (m:=2000) (l:=f.take k) λx _=>zDx C q x;have h2:(f.take k).length*2000<=450*2000:=Ji _ (by rw [Qm];omega);omega
 have b7:=zNt (f.take k) S;have b8:(f.take k).length<=f.length:=by rw [Qm];omega
 refine ite (λhlt=>?_) (λc0=>?_)
 ·have d:k<f.length:=by omega
  have J:=a1 _ (Qa d);have z7:=lz p u;refine dD (λi=>u.heap.size<=i) (upF 13 0) λK e1=>?_
  have nd:∀{b o:Nat} {cs:List Value},Value.blk (.slice fa f.length fc)=some b->¬u.heap.size<=b:=λ{b o cs} L=>by
   obtain⟨b',h6,_,h8⟩:=I.lt (by intro h0;rw [h0] at d;simp at d);rw [L] at h6;cases h6;omega
  refine tix (I.sl.up (w':=K)) (x:=f[k]) (by simp) λb9 o9 A9 L=>tloadA (cs:=enc f[k].key) (A9.sub 0 3) rfl (nd (o:=0) (cs:=[]) L) (tix (I.sl.up (w':=K)) (x:=f[k]) (by simp) λb9 o9 A9 L=>tload1 (A9.cell 3 rfl) (nd (o:=0) (cs:=[]) L) (tbuild (cs:=enc f[k]) rfl (ral λa4 u2 O a5=>⟨Fr.fr O.e,?_⟩)));have a9:=O.lo (u:=u);refine rE a5 (f[k]) λu3 Y f3 _=>⟨f3.mono λi _ hi=>by omega,?_⟩;have Y:Bk u3 a4 (enc f[k]) 222:=Y;have s3:Stp u u3:=⟨Fr.st (lE u u2) f3 λi hi=>by omega⟩;refine rG B1 xq (rG B2 T (rG Y (f[k]) ?_));refine rcall (zLY (x:=f[k]) C (R.up (w':=u3)) a0 J.1 J.2) ?_;rintro _ u4 ⟨⟨v4,rfl,O4⟩,c1⟩;refine iF (· rfl) (rG Y (f[k]) ?_);have a6:=V.up (w':=u4);refine rcall (zNF (x:=f[k]) a6.sl (by omega)) ?_;rintro v5 u5 ⟨O5,c3⟩;have c4:=zDx C q f[k];refine rapp (u:=p) ⟨rfl,rfl⟩ (X.up (w':=u5)) (O4.sl.up (w':=u5)) (by omega) λv6 u6 Z f6 s6=>?_
  have O9:Own p.heap.size 222 u6 v5 (insAll (f.take (k+1)) S):=by
   rw [take_add d,zLK];exact(O5.mono (lz p u4)).fro (X.up (w':=u5)) f6
  have a7:Own p.heap.size 211 u6 v6 ((f.take (k+1)).flatMap (nextL g q)):=by
   rw [take_add d,Jl];simpa using Z
  exact rA ⟨rfl,d,O9,a7,stp⟩
 ·have z:k=f.length:=by omega
  obtain rfl:=z;refine rcall (zFD V.sl X.sl (by omega) (by omega)) ?_;rintro _ K ⟨O3,e1⟩;have Q:stepL g q S M=(insAll (f.take f.length) S,freshL (insAll (f.take f.length) S) ((f.take f.length).flatMap (nextL g q))):=by rw [Qg,U];rfl
  have O5:Own w.heap.size 222 K (.slice na (insAll (f.take f.length) S).length nc) (stepL g q S M).1:=by rw [Q];exact(V.up (w':=K)).mono (lz w p)
  have Z:=O3.mono (lz w u);rw [show freshL (insAll (f.take f.length) S) ((f.take f.length).flatMap (nextL g q))=(stepL g q S M).2 by rw [Q]] at Z;exact⟨⟨_,_,rfl,O5,Z⟩,stp⟩
end Go.W
