/-
  Proved here: parts of this claim.
  Conditions: told at each.
-/
import Derived.Shelf.SlLaysNS
import Derived.Test.YtnanheiakfekdaaGreatDoorProg
import Derived.Test.YtnanheiakfekdaaGreatDoorU4
set_option maxHeartbeats 4000000
set_option linter.unusedVariables false
set_option linter.unusedSimpArgs false
namespace Go.W
open Go Go.Proofs
open AK (enc)
set_option maxRecDepth 10000
variable {B i j k m n n2 n3:Nat} {D R:Nat -> Prop} {P:Program} {a a2 a3:OA} {g:An} {ps:List Int} {q:FX} {s:U8} {u u' w w' w1 w2:World}
def NH (B:Nat) (w:World) (x:Ay) (d:Bt):Prop:=x.id=d.id/\x.kind=d.kind/\nU B w x.q d.q
theorem NH.v{x:Ay}{d:Bt}(h:NH B w x d):MV w x d:=⟨h.1,h.2.1,⟨h.2.2.1,h.2.2.2.1,h.2.2.2.2.1,h.2.2.2.2.2.1.sl,h.2.2.2.2.2.2.1,h.2.2.2.2.2.2.2⟩⟩
theorem zOi{r t:U8}(h:Kq k r=some (q,t)):q.words.length<=8/\∀s∈q.words,s.size<=4000:=by
 unfold Kq at h;split at h
 ·cases h
 ·split at h
  ·split at h
   ·cases h
   ·cases h;simp
  ·split at h
   ·cases h
   ·rename_i f o b;split at h
    ·cases h
    ·split at h
     ·cases h
     ·cases h;have:=kD b;refine⟨by simpa using this.1,λs c=>?_⟩;have d:=Qq.1 c;obtain⟨l,e,rfl⟩:=d;have:=this.2 l e;simpa[AS,ByteArray.size]using this
theorem aO(h:EH s=none):Mh s=none:=by unfold Mh;rw[h]
theorem Y0{b:U8}{id:Nat}(h:EH s=some (id,b)):Mh s=match EH b with
  |none=>none
  |some (k,c)=>if k<=4 then(if k=4 then some (⟨id,4,L3⟩,c) else match Kq k c with
   |none=>none
   |some (q,d)=>some (⟨id,k,q⟩,d)) else none:=by unfold Mh;rw[h];rfl
abbrev TK:Ay:=⟨0,0,⟨0,0,0,⟨none,0,0⟩,0,0⟩⟩
abbrev fO (s:U8) (b:Nat) (w:World) (v:Value) (w':World):Prop:=∃d A' x,Fq Mh s 0 d A'/\Eo d/\v=agg x/\NH w.heap.size w' x d/\Hg w' b s A'/\Fr (λi=>i=b) w w'
abbrev XU (s:U8) (b:Nat) (w:World) (c:List PanicEntry) (w':World):Prop:=c=DA/\(∀d t,Mh s=some (d,t)->¬Eo d)/\Fr (λi=>i=b) w w'
theorem zDZ{b:Nat}(B:Hg w b s 0)(hs:s.length<=4611686018427387904):
  El PP 222 #[.pointer (some ⟨b,0,none⟩)] w (λv w'=>fO s b w v w') (λc w'=>XU s b w c w'):=by
 have a4:=B.lt;refine HB Aa rfl ?_;refine Ap λbr w1 n1 R1=>?_;have a5:=n1.b;have a6:=n1.s;have R1:Bk w1 br (enc TK) 103:=R1;refine AO (Wu (B.mv (w:=w1)) hs) ?_ ?_
 case' refine_2 =>
  rintro _ w2 ⟨rfl,F,X⟩;have f:XU s b w DA w2:=⟨rfl,(λd t h=>by rw[aO (by simpa using F)]at h;cases h),(Fr.fr n1.e).trans X⟩;exact f
 rintro _ w2 ⟨id,A2,a0,rfl,B2,X⟩;have R2:=R1.fr X (by omega);have z2:=X.size;refine AJ (cs:=enc (⟨id,0,⟨0,0,0,⟨none,0,0⟩,0,0⟩⟩:Ay)) rfl (Ap λbx w3 n3 X3=>?_);have a7:=n3.b;have a8:=n3.s;refine rS X3 (enc (⟨id,0,⟨0,0,0,⟨none,0,0⟩,0,0⟩⟩:Ay)) (AK.one _) λw4 X4 f4 _=>?_;have X4:Bk w4 bx (enc (⟨id,0,⟨0,0,0,⟨none,0,0⟩,0,0⟩⟩:Ay)) 103:=X4;have a9:=R1.lt;have G:¬br=bx:=by omega
 have H:¬b=bx:=by omega
 have R4:=(R2.mv (w:=w3)).fr f4 G;have B4:Hg w4 b s A2:=(B2.mv (w:=w3)).fr f4 H;have F4:Fr (λi=>i=b) w w4:=Fr.st' ((((Fr.fr n1.e).trans X).trans (Fr.fr n3.e))) f4 λi hi=>by omega
 have z4:=f4.size;have e2:=Y0 (show EH s=some (id,s.drop A2) by simpa using a0.2);refine AO (qV (m:=4) B4 hs) ?_ ?_
 case' refine_2 =>
  rintro _ w5 ⟨rfl,F,T⟩
  have f:XU s b w DA w5:=by
   refine⟨rfl,λd t h=>?_,F4.trans T⟩;rw[e2]at h
   cases hn:EH (s.drop A2) with
   |none=>rw[hn]at h;cases h
   |some p =>
    obtain⟨k,t'⟩:=p;rw[hn]at h;simp only at h;rw[if_neg (F k t' hn)]at h;cases h
  exact f
 rintro _ w5 ⟨k,Y,Z,hk,rfl,B5,T⟩
 have e5:Mh s=(if k=4 then some (⟨id,4,L3⟩,s.drop Y) else match Kq k (s.drop Y) with
   |none=>none
   |some (q,r3)=>some (⟨id,k,q⟩,r3)):=by rw[e2,Z.2];simp only;rw[if_pos hk]
 have X5:=X4.fr T (by omega);have R5:=R4.fr T (by omega);have z5:=T.size;refine rS X5 [.int .i64 (k:Int)] (IZ _) λU V f6 _=>?_;have V:Bk U bx (enc (⟨id,k,⟨0,0,0,⟨none,0,0⟩,0,0⟩⟩:Ay)) 103:=V;have R6:=R5.fr f6 G;have B6:Hg U b s Y:=B5.fr f6 H;have lx:=X4.lt;have F6:Fr (λi=>i=b) w U:=Fr.st' (F4.trans T) f6 λi hi=>by omega
 have z6:=f6.size;refine rX V rfl (ite (λh4=>?_) (λh4=>?_))
 ·dsimp only at h4;have K:¬k=4:=by omega
  rw[if_neg K]at e5;refine rX V rfl (AO (zLO (kind:=k) B6 hs) ?_ ?_)
  case' refine_2 =>
   rintro _ w7 ⟨rfl,F,W⟩;have f:XU s b w DA w7:=⟨rfl,(λd t h=>by rw[e5,F]at h;cases h),F6.trans W⟩;exact f
  rintro _ w7 ⟨q,A7,xq,L,rfl,OQ,B7,W⟩;have z7:=W.size;have X7:=V.fr W (by omega);have R7:=R6.fr W (by omega);refine rS X7 (enc xq) (AK.one _) λw8 X8 f8 _=>?_;have M:Bk w8 bx (enc (⟨id,k,xq⟩:Ay)) 103:=X8;have RU:=R7.fr f8 G;have BU:Hg w8 b s A7:=B7.fr f8 H;have FU:Fr (λi=>i=b) w w8:=Fr.st' (F6.trans W) f8 λi hi=>by omega
  have z8:=f8.size;have a1:w.heap.size<=U.heap.size:=by omega
  have l:NH w.heap.size w8 (⟨id,k,xq⟩:Ay) ⟨id,k,q⟩:=⟨rfl,rfl,OQ.1,OQ.2.1,OQ.2.2.1,(OQ.2.2.2.1.frc f8 X7).mono a1,OQ.2.2.2.2⟩;have o:Fq Mh s 0 (⟨id,k,q⟩:Bt) A7:=⟨L.1,by rw[Jf,e5,L.2]⟩;have I:∃x,x=(⟨id,k,xq⟩:Ay):=⟨_,rfl⟩;obtain⟨x,hx⟩:=I;have I:∃d,d=(⟨id,k,q⟩:Bt):=⟨_,rfl⟩;obtain⟨d,hd⟩:=I;have I:∃y,y=A7:=⟨_,rfl⟩;obtain⟨AU,N⟩:=I
  have r:d.q.words.length<=1000000/\∀t∈d.q.words,t.size<=1000000:=by
   have h8:=zOi L.2;rw[hd];exact⟨Qw h8.1 (by decide),λt ht=>Qw (h8.2 t ht) (by decide)⟩
  rw[<-hx]at M l;rw[<-hd]at l o;rw[<-N]at BU o;have J:d.q.words.length<=1000000/\∀t∈d.q.words,t.size<=1000000:=r;refine Cq (ds:=enc x) (B:=M) rfl (AK.len x) (AA (eP (d:=d) l.v J.1 J.2) ?_);rintro _ A ⟨⟨rfl,O⟩|⟨rfl,O⟩,e9⟩
  ·refine AO MC ?_ ?_
   ·rintro _ A ⟨_,rfl,rfl⟩;have X9:=M.mv (w:=A);have R9:=RU.mv (w:=A);refine Cq (ds:=enc x) (B:=X9) rfl (AK.len x) (rS R9 (enc x) (AK.one _) λz C E _=>?_);have C:Bk z br (enc x) 103:=C;have Q:Hg z b s AU:=(Bk.mv (w:=A) BU).fr E (by omega);have S:Fr (λi=>i=b) w z:=Fr.st' (FU.trans (Fr.fr e9.e)) E λi hi=>by omega
    refine AR (B:=C) rfl ?_;have f:fO s b w (agg x) z:=⟨d,AU,x,o,O,rfl,⟨l.1,l.2.1,l.2.2.1,l.2.2.2.1,l.2.2.2.2.1,(l.2.2.2.2.2.1.up (w':=A)).frc E R9,l.2.2.2.2.2.2⟩,Q,S⟩;exact f
   ·rintro _ _ ⟨h,_⟩;cases h
  ·refine AO MC ?_ ?_
   ·rintro _ _ ⟨h,_⟩;cases h
   ·rintro _ A ⟨_,rfl,rfl⟩
    have f:XU s b w DA A:=by
     refine⟨rfl,λd' t h hd=>?_,FU.trans (Fr.fr e9.e)⟩;have h2:=o.2;rw[Jf,h]at h2;cases h2;exact O hd
    exact f
 ·dsimp only at h4;have K:k=4:=by omega
  rw[if_pos K]at e5;have M:Bk U bx (enc (⟨id,k,⟨0,0,0,⟨none,0,0⟩,0,0⟩⟩:Ay)) 103:=V;have RU:=R6;have BU:=B6;have FU:=F6;have l:NH w.heap.size U (⟨id,k,⟨0,0,0,⟨none,0,0⟩,0,0⟩⟩:Ay) ⟨id,4,L3⟩:=⟨rfl,by rw[K];rfl,rfl,rfl,rfl,AD.nil _ _ _,rfl,rfl⟩;have o:Fq Mh s 0 (⟨id,4,L3⟩:Bt) Y:=⟨Z.1,by rw[Jf,e5]⟩;have I:∃x,x=(⟨id,k,⟨0,0,0,⟨none,0,0⟩,0,0⟩⟩:Ay):=⟨_,rfl⟩;obtain⟨x,hx⟩:=I;have I:∃d,d=(⟨id,4,L3⟩:Bt):=⟨_,rfl⟩;obtain⟨d,hd⟩:=I;have I:∃y,y=Y:=⟨_,rfl⟩;obtain⟨AU,N⟩:=I;have r:d.q.words.length<=1000000/\∀t∈d.q.words,t.size<=1000000:=by rw[hd];simp[L3]
  rw[<-hx]at M l;rw[<-hd]at l o;rw[<-N]at BU o;have J:d.q.words.length<=1000000/\∀t∈d.q.words,t.size<=1000000:=r;refine Cq (ds:=enc x) (B:=M) rfl (AK.len x) (AA (eP (d:=d) l.v J.1 J.2) ?_);rintro _ A ⟨⟨rfl,O⟩|⟨rfl,O⟩,e9⟩
  ·refine AO MC ?_ ?_
   ·rintro _ A ⟨_,rfl,rfl⟩;have X9:=M.mv (w:=A);have R9:=RU.mv (w:=A);refine Cq (ds:=enc x) (B:=X9) rfl (AK.len x) (rS R9 (enc x) (AK.one _) λz C E _=>?_);have C:Bk z br (enc x) 103:=C;have Q:Hg z b s AU:=(Bk.mv (w:=A) BU).fr E (by omega);have S:Fr (λi=>i=b) w z:=Fr.st' (FU.trans (Fr.fr e9.e)) E λi hi=>by omega
    refine AR (B:=C) rfl ?_;have f:fO s b w (agg x) z:=⟨d,AU,x,o,O,rfl,⟨l.1,l.2.1,l.2.2.1,l.2.2.2.1,l.2.2.2.2.1,(l.2.2.2.2.2.1.up (w':=A)).frc E R9,l.2.2.2.2.2.2⟩,Q,S⟩;exact f
   ·rintro _ _ ⟨h,_⟩;cases h
  ·refine AO MC ?_ ?_
   ·rintro _ _ ⟨h,_⟩;cases h
   ·rintro _ A ⟨_,rfl,rfl⟩
    have f:XU s b w DA A:=by
     refine⟨rfl,λd' t h hd=>?_,FU.trans (Fr.fr e9.e)⟩;have h2:=o.2;rw[Jf,h]at h2;cases h2;exact O hd
    exact f
theorem oC{bx be:Nat}:Lm PP 312 #[.pointer (some ⟨bx,0,none⟩),.pointer (some ⟨be,0,none⟩)] .returning w λu' w'=>u'=.returning/\w'=w:=by
 refine Lm.enter Aa rfl rfl rfl rfl rfl rfl rfl (λ_ _=>rfl) rfl rfl ?_;refine Sx ?_;exact⟨rfl,rfl,rfl⟩
theorem nF{bx be:Nat}{x:Ay}{e:Int}(f:Bk w bx (enc x) 103)(l:Bk w be [.int .i64 e] 24)(b:¬be=bx):
  Lm PP 312 #[.pointer (some ⟨bx,0,none⟩),.pointer (some ⟨be,0,none⟩)] (.panicking DA) w λu' w'=>settle u'=.returning/\Bk w' bx (enc TK) 103/\Bk w' be [.int .i64 220] 24/\Fr (λi=>i=bx\/i=be) w w':=by
 refine Lm.enter Aa rfl rfl rfl rfl rfl rfl rfl (λ_ _=>rfl) rfl rfl ?_;refine Tu (Ap λt w1 n1 o=>rG o TK (rE (f.mv (w:=w1)) TK λw2 p c _=>rS ((l.mv (w:=w1)).fr c b) [.int .i64 220] (HT _) λv r d _=>?_));exact⟨rfl,rfl,p.fr d (λh=>b h.symm),r,((fE w w1).trans (c.mono λi _ hi=>.inl hi)).trans (d.mono λi _ hi=>.inr hi)⟩
theorem zPp{d:Bt}(h:Mh s=some (d,[]))(hd:Eo d):Dp s=some d:=by
 unfold Dp;rw[h];simp only;rw[if_pos hd]
theorem zQw(h:∀d t,Mh s=some (d,t)->¬Eo d):Dp s=none:=by
 unfold Dp;split
 ·rename_i x b;rw[if_neg (h _ _ b)]
 ·rfl
theorem zQx{t:U8}{d:Bt}(h:Mh s=some (d,t))(b:t≠[]):Dp s=none:=by simp_all[Dp]
abbrev Ml (s:U8) (B:Nat) (v:Value) (w':World):Prop:=
 (∃d x,Dp s=some d/\v=.tuple #[agg x,.int .i64 0]/\NH B w' x d)\/(Dp s=none/\v=.tuple #[agg TK,.int .i64 220])
theorem xW(hs:s.length<=4611686018427387904):Sp PP 221 #[Ag s,.func (.func 222) #[] #[]] w λv w'=>Ml s w.heap.size v w'/\AC w w':=by
 refine eN ?_;refine Ap λbx w1 n1 z1=>Ap λbe w2 n2 z2=>?_;have a0:=n1.b;have a1:=n1.s;have a4:=n2.b;have a5:=n2.s;refine AJ (cs:=[Ag s,.int .i64 0]) rfl (BM λA I n3 Z=>?_);have a6:=n3.b;have R3:Hg I A s 0:=Z;clear Z;have X3:Bk I bx (enc TK) 103:=z1.mv;have E3:Bk I be [.int .i64 0] 24:=z2.mv;have a7:=lz w I;have f:¬be=bx:=by omega
 have pan:∀{G:Nat->Value} {u:World} {x:Ay},Bk u bx (enc x) 103->Bk u be [.int .i64 0] 24->AC w u->Dp s=none->ev G (.tmp 4)=.pointer (some ⟨bx,0,none⟩)->ev G (.tmp 5)=.pointer (some ⟨be,0,none⟩) ->
   Cb PP [.cell 4 103,.cell 5 24] G [{ target:=.fn (.func 312) #[.pointer (some ⟨bx,0,none⟩),.pointer (some ⟨be,0,none⟩)],args:=#[] }] (.panicking DA) (λv w'=>Ml s w.heap.size v w'/\AC w w') (λ_ _=>False) u:=by
  intro G u x X J e o g4 g5;refine T5 (by simp) ⟨(nF X J f).can,Sc (nF X J f).calls ?_⟩;intro en u' w' M
  cases en with
  |returned v =>
   obtain⟨l,X',J,f'⟩:=M;show Cb PP _ _ [] (settle u') _ _ w';rw[l];refine Cg ?_;show Ek PP [.cell 4 _,.cell 5 _] [] G _ w';simp only[Ek,g4,g5];refine AR (B:=X') rfl ?_;refine FJ (B:=J) rfl ?_;exact⟨.inr ⟨o,rfl⟩,⟨Fr.st e.e f' λi hi=>by omega⟩⟩
  |panicked c=>exact M
  |outgrown=>exact M
 have C:∀i,i=A->w.heap.size<=i:=by omega
 have E:∀i,i=bx->w.heap.size<=i:=by omega
 have p:¬bx=A:=by omega
 have F:¬be=A:=by omega
 refine AO (zDZ (b:=A) R3 hs) ?_ ?_
 ·rintro _ N ⟨d,A4,x,r,O,rfl,t,R4,y⟩;have Q:AC w N:=⟨Fr.st Le.e y C⟩;have X4:=X3.fr y p;have E4:=E3.fr y F;refine rE X4 x λw5 K L _=>?_;have K:Bk w5 bx (enc x) 103:=K;have s5:AC w w5:=⟨Fr.st Q.e L E⟩;have E5:=E4.fr L f;have R5:=(Bk.fr R4 L (λh=>p h.symm));have O5:=t.2.2.2.2.2.1.frc L X4;refine AO (uQ R5) ?_ ?_
  ·rintro _ z ⟨rfl,hA,e6⟩
   have ht:Mh s=some (d,[]):=by
    have l:=r.2;rw[Jf,hA,Yh]at l;exact l
   have S:=K.mv (w:=z);refine Cq (ds:=enc x) (B:=S) rfl (AK.len x) (rE S x λw7 T U _=>?_);have T:Bk w7 bx (enc x) 103:=T;have s7:AC w w7:=⟨Fr.st Le.e U E⟩;have E7:=(E5.mv (w:=z)).fr U f;have O7:=(O5.up (w':=z)).frc U S;refine rS E7 [.int .i64 0] (HT _) λV E8 W _=>?_;have X8:=T.fr W (λh=>f h.symm);have s8:AC w V:=⟨Fr.st s7.e W λi hi=>by omega⟩;have O8:=O7.frc W E7;refine T5 (by simp) ⟨(oC (bx:=bx) (be:=be) (w:=V)).can,Sc (oC (bx:=bx) (be:=be) (w:=V)).calls ?_⟩;intro en u' w' Y
   cases en with
   |returned v =>
    obtain⟨rfl,rfl⟩:=Y;refine Cg ?_;refine AR (B:=X8) rfl ?_;refine FJ (B:=E8) rfl ?_;exact⟨.inl ⟨d,x,zPp ht O,rfl,t.1,t.2.1,t.2.2.1,t.2.2.2.1,t.2.2.2.2.1,O8.mono (by omega),t.2.2.2.2.2.2⟩,s8⟩
   |panicked c=>exact Y
   |outgrown=>exact Y
  ·rintro _ z ⟨rfl,hA,e6⟩
   have H:s.drop A4≠[]:=λh=>by
    have l:=congrArg List.length h;rw[QR,QZ]at l;have:=r.1;omega
   exact pan (K.mv (w:=z)) (E5.mv (w:=z)) stp (zQx (by have l:=r.2;rw[Jf]at l;exact l) H) rfl rfl
 ·rintro _ N ⟨rfl,o,y⟩;have Q:AC w N:=⟨Fr.st Le.e y C⟩;exact pan (X3.fr y p) (E3.fr y F) Q (zQw o) rfl rfl
theorem zFk(p:s.length<=4611686018427387904):Sp PP 160 #[Ag s] w λv w'=>Ml s w.heap.size v w'/\AC w w':=by
 refine eN ?_;refine Ap λbx w1 n1 h=>?_;have r:=n1.b;refine AA (xW p) ?_;rintro v w2 ⟨⟨d,x,t,rfl,O⟩|⟨l,rfl⟩,y⟩
 ·refine rE (h.mv (w:=w2)) x λo c f _=>?_;have c:Bk o bx (enc x) 103:=c;refine AR (B:=c) rfl ?_;exact⟨.inl ⟨d,x,t,rfl,O.1,O.2.1,O.2.2.1,O.2.2.2.1,O.2.2.2.2.1,(O.2.2.2.2.2.1.frc f (h.mv (w:=w2))).older,O.2.2.2.2.2.2⟩,⟨Fr.st Le.e f λi hi=>by omega⟩⟩
 ·refine rE (h.mv (w:=w2)) TK λo c f _=>?_;have c:Bk o bx (enc TK) 103:=c;refine AR (B:=c) rfl ?_;exact⟨.inr ⟨l,rfl⟩,⟨Fr.st Le.e f λi hi=>by omega⟩⟩
theorem zLP(d:s.length<=4611686018427387904):Sp PP 161 #[Ag s] w λv w'=>((∃n:Nat,LY s=some n/\v=.tuple #[.int .i64 (n:Int),.bool true])\/(LY s=none/\v=.tuple #[.int .i64 0,.bool false]))/\AC w w':=by
 refine eN ?_;refine AA (sP (A:=0) d) ?_;rintro _ w1 ⟨⟨n,f,e,rfl⟩|⟨b,rfl⟩,h⟩
 ·have c:LY s=some n:=by have:=e.2;rw[Jf]at this;unfold LY;rw[this];rfl
  exact⟨.inl ⟨n,c,rfl⟩,stp⟩
 ·have c:LY s=none:=by rw[Jf]at b;unfold LY;rw[b];rfl
  exact⟨.inr ⟨c,rfl⟩,stp⟩
end Go.W
namespace Go.Proofs
open Go.Shelf Tryz
def Tryz.sortI_ren:Go.Shelf.Ren:=⟨fun|53=>418|64=>201|63=>425|78=>284|79=>265|70=>435|71=>436|72=>437|73=>438|74=>439|75=>440|59=>208|76=>441|77=>442|88=>446|89=>352|90=>353|91=>447|92=>448|68=>202|96=>450|n=>n,fun|22=>63|23=>3|3=>3|51=>186|0=>0|67=>277|69=>281|4=>4|61=>375|60=>374|44=>70|5=>5|9=>9|75=>436|79=>440|83=>484|84=>485|n=>n,fun|n=>n⟩
theorem Tryz.sortI:Go.Proofs.SlLaysN.n53 prog Tryz.sortI_ren:={
 mixed:=by kernel_rfl
 f53:=⟨f418.name,by decide,W.ff func418⟩
 f59:=⟨f208.name,by decide,W.ff func208⟩
 f63:=⟨f425.name,by decide,W.ff func425⟩
 f64:=W.ff func201
 f68:=⟨f202.name,by decide,W.ff func202⟩
 f70:=⟨f435.name,by decide,W.ff func435⟩
 f71:=⟨f436.name,by decide,W.ff func436⟩
 f72:=⟨f437.name,by decide,W.ff func437⟩
 f73:=⟨f438.name,by decide,W.ff func438⟩
 f74:=⟨f439.name,by decide,W.ff func439⟩
 f75:=⟨f440.name,by decide,W.ff func440⟩
 f76:=⟨f441.name,by decide,W.ff func441⟩
 f77:=⟨f442.name,by decide,W.ff func442⟩
 f78:=W.ff func284
 f79:=W.ff func265
 f88:=⟨f446.name,by decide,W.ff func446⟩
 f89:=W.ff func352
 f90:=W.ff func353
 f91:=⟨f447.name,by decide,W.ff func447⟩
 f92:=⟨f448.name,by decide,W.ff func448⟩
 f96:=⟨f450.name,by decide,W.ff func450⟩
 t0:=underlying0
 a0:=isAgg0
 z0:=sizeOf0
 v0:=zeroValue0
 t3:=underlying3
 a3:=isAgg3
 z3:=sizeOf3
 v3:=zeroValue3
 t4:=underlying4
 a4:=isAgg4
 z4:=sizeOf4
 v4:=zeroValue4
 t5:=underlying5
 a5:=isAgg5
 z5:=sizeOf5
 v5:=zeroValue5
 t9:=underlying9
 a9:=isAgg9
 z9:=sizeOf9
 v9:=zeroValue9
 t22:=underlying63
 a22:=isAgg63
 z22:=sizeOf63
 v22:=zeroValue63
 t23:=underlying3
 a23:=isAgg3
 z23:=sizeOf3
 v23:=zeroValue3
 t44:=underlying70
 a44:=isAgg70
 z44:=sizeOf70
 v44:=zeroValue70
 t51:=underlying186
 a51:=isAgg186
 z51:=sizeOf186
 v51:=zeroValue186
 t60:=underlying374
 a60:=isAgg374
 z60:=sizeOf374
 v60:=zeroValue374
 t61:=underlying375
 a61:=isAgg375
 z61:=sizeOf375
 v61:=zeroValue375
 t67:=underlying277
 a67:=isAgg277
 z67:=sizeOf277
 v67:=zeroValue277
 t69:=underlying281
 a69:=isAgg281
 z69:=sizeOf281
 v69:=zeroValue281
 t75:=underlying436
 a75:=isAgg436
 z75:=sizeOf436
 v75:=zeroValue436
 t79:=underlying440
 a79:=isAgg440
 z79:=sizeOf440
 v79:=zeroValue440
 t83:=underlying484
 a83:=isAgg484
 z83:=sizeOf484
 v83:=zeroValue484
 t84:=underlying485
 a84:=isAgg485
 z84:=sizeOf485
 v84:=zeroValue485 }
end Go.Proofs
namespace Go.W
open Go Go.Proofs
open AK (enc)
set_option maxRecDepth 10000
variable {B i j k m n n2 n3:Nat} {D R:Nat -> Prop} {P:Program} {a a2 a3:OA} {g:An} {ps:List Int} {q:FX} {s:U8} {u u' w w' w1 w2:World}
structure MM where
 word:ByteArray
 pl:SV
instance:AK MM:=⟨2,λx=>[.string x.word,.slice x.pl.a x.pl.n x.pl.c],λ_=>rfl,by intro x u hu;simp at hu;rcases hu with rfl|rfl<;>rfl,by decide⟩
instance:LawfulBEq ByteArray where
 eq_of_beq h:=(Zi _ _).1 h
 rfl:=(Zi _ _).2 rfl
def Fj (g:An) (s:ByteArray):List Int:=((List.range g.n).filter λv=>(g.ws.getD v []).contains s).map λv:Nat=>(v:Int)
theorem aC{s:ByteArray}{x:Int}:x∈Fj g s↔∃v:Nat,x=v/\v<g.n/\s∈g.ws.getD v []:=by
 unfold Fj;simp only[Qq,QC,Q0,VA];constructor
 ·rintro⟨v,⟨b,c⟩,rfl⟩;exact⟨v,rfl,b,c⟩
 ·rintro⟨v,rfl,b,c⟩;exact⟨v,⟨b,c⟩,rfl⟩
theorem jN(g:An)(s:ByteArray):(Fj g s).length<=g.n:=by
 unfold Fj;rw[Qr];exact Qw (Qv _ _) (by simp)
structure KE (w:World) (g:An) (ws:List ByteArray) (ps:List MM):Prop where
 ris:ws.Pairwise Ct
 all:∀s,s∈ws↔∃l∈g.ws,s∈l
 len:ps.length=ws.length
 at':∀i (h:i<ps.length) (h':i<ws.length),ps[i].word=ws[i]/\AQ w ps[i].pl.v (Fj g ws[i])
theorem KE.up[Le w w']{b:List ByteArray}{ps:List MM}(h:KE w g b ps):KE w' g b ps:=⟨h.ris,h.all,h.len,λi c d=>⟨(h.at' i c d).1,(h.at' i c d).2.up⟩⟩
theorem gD{κ:Type}[DecidableEq κ](k:κ)(v:Value):∀m:List (κ×Value),(CW k v m).length<=m.length+1
 |[]=>by simp[CW]
 |(b,c)::r=>by
  unfold CW;split
  ·simp
  ·have:=gD k v r;simp only[QA];omega
structure FM (w:World) (b:Nat) (m:List (Int×Value)) (f:Int->Prop):Prop where
 mp:Cy PP 3 w b m
 bool:∀p∈m,∃x:Bool,p.2=.bool x
 has:∀n,f n↔(n,Value.bool true)∈m
 len:m.length<=1000
theorem FM.up[Le w w']{b:Nat}{m:List (Int×Value)}{f:Int->Prop}(h:FM w b m f):FM w' b m f:=⟨h.mp.up,h.bool,h.has,h.len⟩
theorem FM.look{b:Nat}{m:List (Int×Value)}{f:Int->Prop}(h:FM w b m f)(n:Int):(f n/\(Au m n).getD (.bool false)=.bool true)\/(¬f n/\(Au m n).getD (.bool false)=.bool false):=by
 have e:=h.mp.2
 cases c:Au m n with
 |none =>
  refine .inr ⟨λd=>?_,rfl⟩;have:=TQ e ((h.has n).1 d);rw[c]at this;cases this
 |some v =>
  have l:=SJ c;have p:=h.bool _ l;obtain⟨x,o⟩:=p;simp only at o;subst o
  cases x with
  |true=>exact .inl ⟨(h.has n).2 l,rfl⟩
  |false =>
   refine .inr ⟨λd=>?_,rfl⟩;have:=TQ e ((h.has n).1 d);rw[c]at this;cases this
theorem vU{c:Nat}{l:List Int}(h:AQ w (.slice a n c) l)(J:l.length<=1000):
  Sp PP 399 #[.slice a n c] w λv w'=>(∃b m,v=.map (some b)/\FM w' b m (·∈l)/\w.heap.size<=b)/\AC w w':=by
 have f:=h.len;obtain rfl:=f;refine eN ?_;refine K0 (kt:=3) (κ:=Int) rfl λb w1 n1 y=>?_;have hb:=n1.lo (u:=w);refine cN 9 [5] 9 l.length (λk u=>∃m,FM u b m (·∈l.take k)/\m.length<=k/\AC w u) ⟨[],⟨y,by simp,by simp,by simp⟩,by simp,stp⟩ ?_;rintro k g u K ⟨m,S,L,t⟩;refine ite (λAY=>?_) (λz=>?_)
 ·have o:k<l.length:=by omega
  refine Bv (h.up (w':=u)) (x:=l[k]) (by simp) λM N A=>AF (A.cell0 rfl) (Cv S.mp l[k] rfl λC E F _=>?_);have G:=gD l[k] (.bool true) m
  have H:FM C b (CW l[k] (.bool true) m) (·∈l.take (k+1)):=by
   refine⟨E,λp I=>?_,λx=>?_,by omega⟩
   ·obtain⟨O,Q⟩:=p;have f:=(KI S.mp.2).1 I;rcases f with⟨_,r⟩|⟨_,r⟩
    ·exact⟨true,r⟩
    ·exact S.bool _ r
   ·rw[KI S.mp.2,Cs o,Qf,Qc,S.has];constructor
    ·rintro(d|d)
     ·by_cases e:x=l[k]
      ·exact .inl ⟨e,rfl⟩
      ·exact .inr ⟨e,d⟩
     ·exact .inl ⟨d,rfl⟩
    ·rintro(⟨d,_⟩|⟨_,d⟩)
     ·exact .inr d
     ·exact .inl d
  exact rA ⟨rfl,o,_,H,by omega,⟨Fr.st t.e F λi hi=>by omega⟩⟩
 ·have f:k=l.length:=by omega
  obtain rfl:=f;rw[Qg]at S;exact⟨⟨b,m,rfl,S,hb⟩,t⟩
theorem zHZ{bs bo:Nat}{L mo:List (Int×Value)}{f g:Int->Prop}(S:FM w bs L f)(O:FM w bo mo g):
  Sp PP 383 #[.map (some bs),.map (some bo)] w λv w'=>(∃b m,v=.map (some b)/\FM w' b m (λn=>f n/\g n)/\w.heap.size<=b)/\AC w w':=by
 refine eN ?_;refine K0 (kt:=3) (κ:=Int) rfl λb w1 n1 M1=>?_;have hb:=n1.lo (u:=w);have W:=S.mp.2;have a5:=S.len;refine Oe rfl (Ix (S.mp.up (w':=w1)) λr w2 nr X _=>?_);have hr:=nr.b;have a6:=n1.b;have a7:=n1.s;have M:¬b=r:=by omega
 refine Mx Aa 11 [6,7] (λi u=>∃(done rest:List (Int×Value)) (m:List (Int×Value)),rest.length=i/\(done++rest).Perm L/\FM u b m (λn=>(n,Value.bool true)∈done/\g n)/\m.length<=done.length/\(∀p∈m,∃v,(p.1,v)∈done)/\Iu PP 3 u r bs rest/\AC w u) rfl
  ⟨_,[],L,[],rfl,.refl _,⟨M1.up,by simp,by simp,by simp⟩,by simp,by simp,X,stp⟩ ?_
 rintro i G u ⟨done,rest,m,hi,A,o,a8,Y,It,su⟩;refine Oe rfl (LM It (λE=>?_) λx v c V F hC f2 a9=>?_)
 ·subst E;rw[QE]at A;refine⟨⟨b,m,rfl,⟨o.mp,o.bool,λn=>?_,o.len⟩,hb⟩,su⟩;rw[<-o.has,S.has,A.mem_iff]
 ·have Z:(x,v)∈L:=A.mem_iff.1 (JJ _ (F.mem_iff.1 Qs));have t:=S.bool _ Z;obtain⟨N,Q⟩:=t;simp only at Q;subst Q;have s2:AC w V:=⟨Fr.st su.e f2 λi hi=>by omega⟩;have H:Cy PP 3 V b m:=o.mp.fr f2 M
  have I:(done++[(x,Value.bool N)]++c).Perm L:=by
   rw[Qp];exact(Vp done F).trans A
  have a0:∀v,(x,v)∉done:=λv hv=>by
   have T:=(I.map (·.1)).nodup_iff.2 W;rw[QB,QB]at T;have:=(JU.1 (JU.1 T).1).2.2 x (Qq.2 ⟨_,hv,rfl⟩) x (by simp);exact this rfl
  have a1:=I.length_eq;simp only[Qb,QA,QZ]at a1;refine Oe rfl (Iw hC ?_)
  have fin:∀(y:Bool) (h:World),(y=true↔N=true/\g x)->Cy PP 3 h b (CW x (.bool y) m)->Fr (λi=>i=b) V h->∃i',i'<i/\∃(done rest:List (Int×Value)) (m:List (Int×Value)),rest.length=i'/\(done++rest).Perm L/\FM h b m (λn=>(n,Value.bool true)∈done/\g n)/\m.length<=done.length/\(∀p∈m,∃v,(p.1,v)∈done)/\Iu PP 3 h r bs rest/\AC w h:=by
   intro y h hy J C;have b0:=gD x (.bool y) m;have a4:=F.length_eq;rw[QA]at a4;refine⟨c.length,by omega,done++[(x,.bool N)],c,CW x (.bool y) m,rfl,I,⟨J,λp A=>?_,λn=>?_,by omega⟩,by simp;omega,λp A=>?_,hC.b.fr C (λe=>M e.symm) (λe=>by have:=S.mp.lt;omega),⟨Fr.st s2.e C λi hi=>by omega⟩⟩
   ·obtain⟨p1,p2⟩:=p;have t:=(KI o.mp.2).1 A;rcases t with⟨_,d⟩|⟨_,d⟩
    ·exact⟨y,d⟩
    ·exact o.bool _ d
   ·rw[KI o.mp.2,Qf,Qc];constructor
    ·rintro⟨z|z,d⟩
     ·refine .inr ⟨λe=>?_,(o.has n).1 ⟨z,d⟩⟩;subst e;exact a0 _ z
     ·injection z with U K;injection K with K;subst U;exact .inl ⟨rfl,by rw[hy.2 ⟨K.symm,d⟩]⟩
    ·rintro(⟨z,d⟩|⟨z,d⟩)
     ·injection d with d;subst z;have t:=hy.1 d.symm;obtain⟨U,K⟩:=t;exact⟨.inr (by rw[U]),K⟩
     ·have t:=(o.has n).2 d;obtain⟨U,K⟩:=t;exact⟨.inl U,K⟩
   ·obtain⟨p1,p2⟩:=p;have t:=(KI o.mp.2).1 A;rcases t with⟨z,_⟩|⟨_,d⟩
    ·exact⟨.bool N,by rw[z];simp⟩
    ·obtain⟨v,hv⟩:=Y _ d;exact⟨v,QN _ hv⟩
  cases N with
  |true =>
   have OO:=O.up (w':=V);refine Hk OO.mp.l x rfl ?_;have t:=OO.look x;rcases t with⟨hg,e⟩|⟨hg,e⟩
   ·rw[e];exact Cv H x rfl λh J C _=>fin true h (by simp[hg]) J C
   ·rw[e];exact Cv H x rfl λh J C _=>fin false h (by simp[hg]) J C
  |false =>
   exact Cv H x rfl λh J C _=>fin false h (by simp) J C
end Go.W
namespace Go.Proofs
open Go.Shelf Tryz
def Tryz.sortT_ren:Go.Shelf.Ren:=⟨fun|54=>152|64=>201|65=>218|78=>284|79=>265|80=>303|81=>304|82=>305|83=>306|84=>307|85=>308|61=>309|86=>310|87=>311|93=>359|89=>352|90=>353|94=>360|95=>361|69=>362|97=>391|n=>n,fun|25=>28|26=>9|3=>3|51=>186|0=>0|67=>277|69=>281|4=>4|61=>375|60=>374|44=>70|5=>5|9=>9|75=>436|79=>440|83=>484|84=>485|n=>n,fun|n=>n⟩
theorem Tryz.sortT:Go.Proofs.SlLaysN.n54 prog Tryz.sortT_ren:={
 mixed:=by kernel_rfl
 f54:=⟨f152.name,by decide,W.ff func152⟩
 f61:=⟨f309.name,by decide,W.ff func309⟩
 f64:=W.ff func201
 f65:=⟨f218.name,by decide,W.ff func218⟩
 f69:=⟨f362.name,by decide,W.ff func362⟩
 f78:=W.ff func284
 f79:=W.ff func265
 f80:=⟨f303.name,by decide,W.ff func303⟩
 f81:=⟨f304.name,by decide,W.ff func304⟩
 f82:=⟨f305.name,by decide,W.ff func305⟩
 f83:=⟨f306.name,by decide,W.ff func306⟩
 f84:=⟨f307.name,by decide,W.ff func307⟩
 f85:=⟨f308.name,by decide,W.ff func308⟩
 f86:=⟨f310.name,by decide,W.ff func310⟩
 f87:=⟨f311.name,by decide,W.ff func311⟩
 f89:=W.ff func352
 f90:=W.ff func353
 f93:=⟨f359.name,by decide,W.ff func359⟩
 f94:=⟨f360.name,by decide,W.ff func360⟩
 f95:=⟨f361.name,by decide,W.ff func361⟩
 f97:=⟨f391.name,by decide,W.ff func391⟩
 t0:=underlying0
 a0:=isAgg0
 z0:=sizeOf0
 v0:=zeroValue0
 t3:=underlying3
 a3:=isAgg3
 z3:=sizeOf3
 v3:=zeroValue3
 t4:=underlying4
 a4:=isAgg4
 z4:=sizeOf4
 v4:=zeroValue4
 t5:=underlying5
 a5:=isAgg5
 z5:=sizeOf5
 v5:=zeroValue5
 t9:=underlying9
 a9:=isAgg9
 z9:=sizeOf9
 v9:=zeroValue9
 t25:=underlying28
 a25:=isAgg28
 z25:=sizeOf28
 v25:=zeroValue28
 t26:=underlying9
 a26:=isAgg9
 z26:=sizeOf9
 v26:=zeroValue9
 t44:=underlying70
 a44:=isAgg70
 z44:=sizeOf70
 v44:=zeroValue70
 t51:=underlying186
 a51:=isAgg186
 z51:=sizeOf186
 v51:=zeroValue186
 t60:=underlying374
 a60:=isAgg374
 z60:=sizeOf374
 v60:=zeroValue374
 t61:=underlying375
 a61:=isAgg375
 z61:=sizeOf375
 v61:=zeroValue375
 t67:=underlying277
 a67:=isAgg277
 z67:=sizeOf277
 v67:=zeroValue277
 t69:=underlying281
 a69:=isAgg281
 z69:=sizeOf281
 v69:=zeroValue281
 t75:=underlying436
 a75:=isAgg436
 z75:=sizeOf436
 v75:=zeroValue436
 t79:=underlying440
 a79:=isAgg440
 z79:=sizeOf440
 v79:=zeroValue440
 t83:=underlying484
 a83:=isAgg484
 z83:=sizeOf484
 v83:=zeroValue484
 t84:=underlying485
 a84:=isAgg485
 z84:=sizeOf485
 v84:=zeroValue485 }
end Go.Proofs
namespace Go.W
open Go Go.Proofs
open AK (enc)
set_option maxRecDepth 10000
variable {B i j k m n n2 n3:Nat} {D R:Nat -> Prop} {P:Program} {a a2 a3:OA} {g:An} {ps:List Int} {q:FX} {s:U8} {u u' w w' w1 w2:World}
structure Gb (B:Nat) (w:World) (bm:Nat) (m:List (ByteArray×Value)) (f:ByteArray->List Int):Prop where
 lo:B<=bm
 map:BO PP 9 w bm m
 rows:∀s v,(s,v)∈m->AD B 3 w v (f s)/\f s≠[]
 empt:∀s,s∉m.map (·.1)->f s=[]
 apart:∀s v s' v',(s,v)∈m->(s',v')∈m->s≠s'->∀g,Value.blk v=some g->Value.blk v'≠some g
theorem Gb.up[Le w w']{b:Nat}{m:List (ByteArray×Value)}{f:ByteArray->List Int}(h:Gb B w b m f):Gb B w' b m f:=
 ⟨h.lo,h.map.up,λs v c=>⟨(h.rows s v c).1.up,(h.rows s v c).2⟩,h.empt,h.apart⟩
theorem Gb.kept{es:List TypeId}{b:Nat}{m:List (ByteArray×Value)}{f:ByteArray->List Int}(h:Gb B w b m f)(F:BQ B es w w')(d:3∉es)(e:Fh∉es):Gb B w' b m f:=
 ⟨h.lo,h.map.kept F e,λs v c=>⟨(h.rows s v c).1.kept F d,(h.rows s v c).2⟩,h.empt,h.apart⟩
theorem Gb.look{e:Nat}{m:List (ByteArray×Value)}{f:ByteArray->List Int}(h:Gb B w e m f)(s:ByteArray):
  AD B 3 w ((Au m s).getD (.slice none 0 0)) (f s)/\∀g,Value.blk ((Au m s).getD (.slice none 0 0))=some g->∃b,(s,b)∈m/\Value.blk b=some g:=by
 cases c:Au m s with
 |none =>
  rw[h.empt s (dY.1 c)];exact⟨AD.nil _ _ _,λg hb=>(by cases hb)⟩
 |some v =>
  have d:=SJ c;exact⟨(h.rows s v d).1,λg hb=>⟨v,d,hb⟩⟩
theorem Gb.push{E:World}{I:Nat}{m:List (ByteArray×Value)}{f:ByteArray->List Int}{s:ByteArray}{n:Int}{F:Value}(h:Gb B w I m f)
  (O:AD B 3 E F (f s++[n]))(T:Fr (AV B ((Au m s).getD (.slice none 0 0))) w E)
  (y:Value.blk F=Value.blk ((Au m s).getD (.slice none 0 0))\/Value.blk F=some w.heap.size)(M:BO PP 9 u I (CW s F m))(Y:Fr (λi=>i=I) E u):
  Gb B u I (CW s F m) (λs'=>if s'=s then f s'++[n] else f s')/\BQ B [3,Fh] w u:=by
 have b:=h.look s;obtain⟨J,G⟩:=b;have z:=h.map.2;have F1:BQ B [3,Fh] w E:=J.wrote T (Qe _) (by decide);have Z:BO PP 9 E I m:=h.map.frO J T;have F2:BQ B [3,Fh] E u:=Z.wrote Y h.lo (by decide);have K:BQ B [Fh] E u:=Z.wrote Y h.lo (by decide)
 have lt:∀d o,(d,o)∈m->∃g,Value.blk o=some g/\g<w.heap.size:=λd o t=>by
  have b:=h.rows d o t;obtain⟨H,c⟩:=b;have b:=H.lt c;obtain⟨g,L,_,U⟩:=b;exact⟨g,L,U⟩
 have nd:∀d o,(d,o)∈m->d≠s->∀g,Value.blk o=some g->¬AV B ((Au m s).getD (.slice none 0 0)) g:=λd o t c g r hd=>by
  have b:=G g hd.2.1;obtain⟨N,v,x⟩:=b;exact h.apart d o s N t v c g r x
 refine⟨⟨h.lo,M,λd o t=>?_,λd Q=>?_,λd o V W U h3 c g r l=>?_⟩,F1.trans F2⟩
 ·have b:=(KI z).1 t;rcases b with⟨rfl,rfl⟩|⟨c,p⟩
  ·rw[if_pos rfl];exact⟨O.kept K (by decide),by simp⟩
  ·rw[if_neg c];have b:=h.rows d o p;obtain⟨H,C⟩:=b;exact⟨(H.fr T λg _ r=>nd d o p c g r).kept K (by decide),C⟩
 ·have X:d≠s:=by rintro rfl;exact Q ((EY d F m d).2 (.inl rfl))
  rw[if_neg X];exact h.empt d λhm=>Q ((EY s F m d).2 (.inr hm))
 ·have b:=(KI z).1 U;rcases b with⟨rfl,rfl⟩|⟨C,p⟩
  ·have b:=(KI z).1 h3;rcases b with⟨e,_⟩|⟨S,A⟩
   ·exact c e.symm
   ·rcases y with y|y
    ·rw[y]at r;have b:=G g r;obtain⟨N,v,x⟩:=b;exact h.apart _ N V W v A c g x l
    ·rw[y]at r;cases r;have b:=lt V W A;obtain⟨g',L,h4⟩:=b;rw[L]at l;cases l;omega
  ·have b:=(KI z).1 h3;rcases b with⟨rfl,rfl⟩|⟨S,A⟩
   ·rcases y with y|y
    ·rw[y]at l;have b:=G g l;obtain⟨N,v,x⟩:=b;exact h.apart d o _ N p v c g r x
    ·rw[y]at l;cases l;have b:=lt d o p;obtain⟨g',L,h4⟩:=b;rw[L]at r;cases r;omega
   ·exact h.apart d o V W p A c g r l
def fK (g:An) (k:Nat) (s:ByteArray):List Int:=((List.range k).filter λv=>(g.ws.getD v []).contains s).map λv:Nat=>(v:Int)
def fJ (g:An) (k j:Nat) (s:ByteArray):List Int:=fK g k s++if s∈(g.ws.getD k []).take j then[(k:Int)] else[]
theorem UQ(g:An)(k:Nat)(s:ByteArray):(fK g k s).length<=k:=by
 unfold fK;rw[Qr];exact Qw (Qv _ _) (by simp)
theorem aA(g:An)(k:Nat):fJ g k 0=fK g k:=by
 funext s;simp[fJ]
theorem UN(h:j=(g.ws.getD k []).length):fJ g k j=fK g (k+1):=by
 funext s;subst h;unfold fJ fK;rw[Qg,Jm,QV,QB];congr 1;simp only[Vj,List.filter_nil,VA];split<;>simp
theorem zQc{l:List ByteArray}(b:g.ws.getD k []=l)(c:j<l.length)(d:l.Nodup):fJ g k (j+1)=λs=>if s=l[j] then fJ g k j s++[(k:Int)] else fJ g k j s:=by
 funext s;unfold fJ;rw[b,Cs c];simp only[Qf,Qc];by_cases e:s=l[j]
 ·rw[if_pos e,if_pos (.inr e)]
  have:s∉l.take j:=by
   rw[e,List.mem_take_iff_getElem];rintro⟨i,hi,f⟩;have:=(VQ d).1 f;omega
  rw[if_neg this,QE]
 ·rw[if_neg e];simp[e]
theorem Uk{l:List ByteArray}(h:l.Pairwise Ct):l.Nodup:=by
 rw[Qx];exact h.imp λ{a b} c e=>by subst e;exact List.lt_irrefl _ c
theorem zY(t:g.ws.length=g.n){s:ByteArray}:Fj g s≠[]↔∃l∈g.ws,s∈l:=by
 constructor
 ·intro h;have b:=List.exists_cons_of_ne_nil h;obtain⟨x,r,e⟩:=b;have o:x∈Fj g s:=by simp_all
  have b:=aC.1 o;obtain⟨v,_,f,d⟩:=b;have c:v<g.ws.length:=by omega
  rw[Qk,Qd c,QP]at d;exact⟨_,Qa c,d⟩
 ·rintro⟨l,p,d⟩ h;have b:=QI.1 p;obtain⟨v,f,rfl⟩:=b;have:(v:Int)∈Fj g s:=aC.2 ⟨v,rfl,by omega,by rw[Qk,Qd f,QP];exact d⟩;rw[h]at this;cases this
def Sg (g:An) (B bm:Nat) (k j:Nat) (v:Value) (u:World):Prop:=
 ∃m Wd,AD B 9 u v Wd/\Gb B u bm m (fJ g k j)/\Wd.Nodup/\(∀s,s∈Wd↔fJ g k j s≠[])/\Wd.length<=8*k+j
theorem zHY{x:FY}{vs:List SV}(V:Kt w x g vs)(hg:Bb g):
  Sp PP 97 #[agg x] w λv w'=>(∃a c ps ws,v=.tuple #[.slice a ps.length c,.int .i64 0]/\KE w' g ws ps/\AQ w' (.slice a ps.length c) ps/\ps.length<=2000/\AD w.heap.size 225 w' (.slice a ps.length c) ps/\∀i (h:i<ps.length) (L:i<ws.length),AD w.heap.size 3 w' ps[i].pl.v (Fj g ws[i]))/\AC w w':=by
 have d1:=hg.ok.n2;have d2:=hg.nw;have d3:vs.length=g.ws.length:=V.rows.1;obtain⟨xn,U,⟨wa,wn,wc⟩⟩:=x;have t:vs.length=wn:=V.ws.len.symm;obtain rfl:=t;have b8:AQ w (.slice wa vs.length wc) vs:=V.ws;have a5:agg (⟨xn,U,⟨wa,vs.length,wc⟩⟩:FY)=.agg #[.int .i64 xn,.slice U.a U.n U.c,.slice wa vs.length wc]:=rfl;rw[a5];refine eN ?_;refine BM λb w1 n1 B1=>Cq (ds:=[.int .i64 xn,.slice U.a U.n U.c,.slice wa vs.length wc]) (B:=B1) rfl rfl (AA (dP (V.up (w':=w1))) ?_);rintro _ w2 ⟨⟨rfl,_⟩|⟨rfl,h2⟩,e2⟩
 case' inr=>exact absurd hg h2
 refine SX (kt:=9) (κ:=ByteArray) rfl λC w3 n3 M3=>?_;have b9:=n3.lo (u:=w);refine rX B1 rfl ?_;have R0:Gb w.heap.size w3 C [] (fK g 0):=⟨b9,M3,by simp,λs _=>rfl,by simp⟩;have I0:Sg g w.heap.size C 0 0 (.slice none 0 0) w3:=⟨[],[],AD.nil _ _ _,by rw[aA];exact R0,.nil,λs=>by rw[aA];simp[fK],by simp⟩;refine cO 20 [6,7,9] 5 20 vs.length (λk v u=>Sg g w.heap.size C k 0 v u/\AC w u) ⟨I0,stp⟩ ?_;rintro k v G u hk ⟨I,su⟩;refine ite (λAY=>?_) (λd4=>?_)
 ·have N:k<vs.length:=by omega
  have Q:k<g.ws.length:=by omega
  refine Bv (b8.up (w':=u)) (x:=vs[k]) (by simp) λb1 o1 A1=>AF (A1.cell0 rfl) ?_;have hR:AQ w vs[k].v g.ws[k]:=V.rows.2 k N Q;have a6:g.ws.getD k []=g.ws[k]:=by rw[Qk,Qd Q,QP]
  have a7:=hR.len;have d5:=(hg.word _ (Qa Q)).1;have c0:=Uk (hg.wr _ (Qa Q));generalize d6:g.ws[k]=l at *;generalize d7:vs[k]=sv at *;obtain⟨sa,sn,sc⟩:=sv;simp only at a7;subst a7;refine cO 27 [9] 5 27 l.length (λj v u=>Sg g w.heap.size C k j v u/\AC w u) ⟨I,su⟩ ?_;rintro j v G2 u2 hj ⟨⟨m,Wd,W,M,F,y,c1⟩,s2⟩;refine ite (λa8=>?_) (λa9=>?_)
  ·dsimp only at a8;have X:j<l.length:=by omega
   refine Bv (hR.up (w':=u2)) (x:=l[j]) (by simp) λb3 o3 A3=>AF (A3.cell0 rfl) ?_;have A:=M.look l[j];obtain⟨O,c2⟩:=A;have O':=O;have Y:=O.shape;obtain⟨oa,oc,H⟩:=Y;rw[H]at O';refine LI M.map l[j] rfl (by exact H) ?_
   have d8:(fJ g k j l[j]).length<=201:=by
    unfold fJ;rw[Qb];have:=UQ g k l[j];split<;>simp<;>omega
   have J:=zQc a6 X c0;have d9:w.heap.size<=u2.heap.size:=lz w u2
   have fin:∀(u0 u1 S:World) (v2 v':Value) (E:List ByteArray),AD w.heap.size 9 u0 v2 E->Gb w.heap.size u0 C m (fJ g k j)->E.Nodup->(∀s,s∈E↔s=l[j]\/fJ g k j s≠[])->E.length<=8*k+(j+1)->AC w u0 ->
     AD w.heap.size 3 u1 v' (fJ g k j l[j]++[(k:Int)])->Fr (AV w.heap.size ((Au m l[j]).getD (.slice none 0 0))) u0 u1->(Value.blk v'=Value.blk ((Au m l[j]).getD (.slice none 0 0))\/Value.blk v'=some u0.heap.size) ->
     BO PP 9 S C (CW l[j] v' m)->Fr (λi=>i=C) u1 S->Sg g w.heap.size C k (j+1) v2 S/\AC w S:=λu0 u1 S v2 v' E O2 R2 h1 h2 h3 s0 O1 f1 hv M3 f3=>by
    have hc:=R2.push O1 f1 hv M3 f3;rw[<-J]at hc;refine⟨⟨_,E,O2.kept hc.2 (by decide),hc.1,h1,λs=>?_,h3⟩,⟨BQ.st s0.e hc.2 (Qe _)⟩⟩;rw[h2,J];by_cases e:s=l[j]
    ·simp[e]
    ·simp[e]
   refine ite (λhz=>?_) (λc3=>?_)
   ·have c4:fJ g k j l[j]=[]:=Qn (by omega);have b0:l[j]∉Wd:=λhm=>(y _).1 hm c4;refine HS l[j] rfl rfl (by decide) λb3 w3 n3 _ S3=>Ax (u:=w) ⟨rfl,rfl⟩ (W.up (w':=w3)) S3 (by omega) λv3 S K f3 s3=>?_;have p:Gb w.heap.size S C m (fJ g k j):=(M.up (w':=w3)).kept ((W.up (w':=w3)).wrote f3 (Qe _) (show 9∈[9] by decide)) (by decide) (by decide);have O3:=(p.look l[j]).1;have t:∃x,x=Wd++[l[j]]:=⟨_,rfl⟩;obtain⟨z,o⟩:=t;rw[<-o]at K
    have T:z.Nodup:=by
     rw[o,JU];exact⟨F,by simp,λa ha b hb e=>b0 (by rw[Qc.1 hb]at e;exact e ▸ ha)⟩
    have Z:∀s,s∈z↔s=l[j]\/fJ g k j s≠[]:=λs=>by
     rw[o,Qf,Qc,y];exact Or.comm
    have a0:z.length<=8*k+(j+1):=by rw[o];simp;omega
    refine Hk p.map l[j] rfl (bS (k:Int) λb5 r n5 _ S5=>?_);have h5:w.heap.size<=r.heap.size:=lz w r;refine GB ⟨rfl,rfl⟩ (O3.up (w':=r)) S5 (by simp) h5 (by simp;omega) λv6 w6 O6 f6 hv=>?_;have M6:BO PP 9 w6 C m:=(p.map.up (w':=r)).frO (O3.up (w':=r)) f6;refine Pt M6 l[j] rfl λw7 M7 f7 _=>?_;have q7:=fin r w6 w7 v3 v6 z (K.up (w':=r)) (p.up (w':=r)) T Z a0 stp O6 f6 hv M7 f7;exact rA ⟨rfl,X,q7.1,q7.2⟩
   ·have b2:fJ g k j l[j]≠[]:=λe=>c3 (by rw[e];rfl);have t:∃x,x=v:=⟨_,rfl⟩;obtain⟨v3,rfl⟩:=t;have t:∃x,x=Wd:=⟨_,rfl⟩;obtain⟨z,o⟩:=t;have K:=W;have p:=M;have O3:=O;have T:=F;rw[<-o]at K;rw[<-o]at T
    have Z:∀s,s∈z↔s=l[j]\/fJ g k j s≠[]:=λs=>by
     rw[o,y];constructor
     ·exact .inr
     ·rintro(rfl|h)
      ·exact b2
      ·exact h
    have a0:z.length<=8*k+(j+1):=by rw[o];omega
    refine Hk p.map l[j] rfl (bS (k:Int) λb5 r n5 _ S5=>?_);have h5:w.heap.size<=r.heap.size:=lz w r;refine GB ⟨rfl,rfl⟩ (O3.up (w':=r)) S5 (by simp) h5 (by simp;omega) λv6 w6 O6 f6 hv=>?_;have M6:BO PP 9 w6 C m:=(p.map.up (w':=r)).frO (O3.up (w':=r)) f6;refine Pt M6 l[j] rfl λw7 M7 f7 _=>?_;have q7:=fin r w6 w7 v3 v6 z (K.up (w':=r)) (p.up (w':=r)) T Z a0 stp O6 f6 hv M7 f7;exact rA ⟨rfl,X,q7.1,q7.2⟩
  ·dsimp only at a9;have t:j=l.length:=by omega
   obtain rfl:=t;rw[UN (by rw[a6])]at M y;exact rA ⟨rfl,N,⟨m,Wd,W,by rw[aA];exact M,F,λs=>by rw[aA];exact y s,by omega⟩,s2⟩
 ·have t:k=vs.length:=by omega
  obtain rfl:=t;obtain⟨m,Wd,W,M,F,y,c1⟩:=I;rw[aA]at M y;rw[show vs.length=g.n by omega]at M y;refine AA (zPJ Tryz.sortT (f:=152) rfl W (by omega)) ?_;rintro _ u2 ⟨rfl,d,hp,hs,OS,f2⟩;have c5:Gb w.heap.size u2 C m (fK g g.n):=M.kept (W.wrote f2 (Qe _) (show 9∈[9] by decide)) (by decide) (by decide);have s2:Gl w u u2:=Mu f2;have b4:d.Nodup:=hp.nodup_iff.2 F;have e0:=hp.length_eq;have P0:(∀s,s∈d↔∃l∈g.ws,s∈l):=λs=>by rw[hp.mem_iff,y,<-zY hg.nw];rfl
  have c6:d.Pairwise Ct:=by
   rw[Qx]at b4
   exact(hs.and b4).imp λ{a b} ⟨h1,h2⟩=>by
    have t:=zN3 a b;rcases t with h|h|h
    ·exact h
    ·exact absurd h h2
    ·exact absurd h1 (List.not_le.2 h)
  have t:=OS.shape;obtain⟨c7,c8,rfl⟩:=t
  refine cO 54 [12] 10 54 d.length (λk v u=>∃ps:List MM,AD w.heap.size 225 u v ps/\ps.length=k/\(∀i (h:i<ps.length) (L:i<d.length),ps[i].word=d[i]/\ps[i].pl.v=(Au m d[i]).getD (.slice none 0 0))/\Gb w.heap.size u C m (fK g g.n)/\AD w.heap.size 9 u (.slice c7 d.length c8) d/\AC w u)
   ⟨[],AD.nil _ _ _,rfl,by simp,c5,OS,stp⟩ ?_
  rintro k v G3 S e1 ⟨ps,OP,a1,a4,p,b6,s3⟩;refine ite (λc9=>?_) (λd0=>?_)
  ·have N:k<d.length:=by omega
   refine Bv b6.sl (x:=d[k]) (by simp) λb3 o3 A3=>AF (A3.cell0 rfl) ?_;have A:=p.look d[k];obtain⟨O,c2⟩:=A;have Y:=O.shape;obtain⟨oa,oc,H⟩:=Y;refine LI p.map d[k] rfl (by exact H) ?_;refine AJ (cs:=enc (⟨d[k],⟨oa,(fK g g.n d[k]).length,oc⟩⟩:MM)) rfl (bS (⟨d[k],⟨oa,(fK g g.n d[k]).length,oc⟩⟩:MM) λb5 r n5 _ S5=>Ax (u:=w) ⟨rfl,rfl⟩ (OP.up (w':=r)) S5 (by omega) λv6 w6 O6 f6 s6=>?_);have F6:BQ w.heap.size [225] r w6:=(OP.up (w':=r)).wrote f6 (Qe _) (by decide)
   have b7:∀i (h:i<(ps++[(⟨d[k],⟨oa,(fK g g.n d[k]).length,oc⟩⟩:MM)]).length) (L:i<d.length),(ps++[(⟨d[k],⟨oa,(fK g g.n d[k]).length,oc⟩⟩:MM)])[i].word=d[i]/\(ps++[(⟨d[k],⟨oa,(fK g g.n d[k]).length,oc⟩⟩:MM)])[i].pl.v=(Au m d[i]).getD (.slice none 0 0):=λi h L=>by
    by_cases hi:i<ps.length
    ·rw[List.getElem_append_left hi];exact a4 i hi L
    ·have h3:i=k:=by simp at h;omega
     subst h3;rw[List.getElem_append_right (by omega)];simp only[a1,JN,Vb];exact⟨trivial,H.symm⟩
   exact rA ⟨rfl,N,_,O6,by simp[a1],b7,(p.up (w':=r)).kept F6 (by decide) (by decide),(b6.up (w':=r)).kept F6 (by decide),stp⟩
  ·have t:k=d.length:=by omega
   obtain rfl:=t;have t:=OP.shape;obtain⟨pa,pc,rfl⟩:=t
   have hO:∀i (h:i<ps.length) (L:i<d.length),AD w.heap.size 3 S ps[i].pl.v (Fj g d[i]):=λi h L=>by
    rw[(a4 i h L).2];exact(p.look d[i]).1
   exact⟨⟨pa,pc,ps,d,rfl,⟨c6,P0,a1,λi h L=>⟨(a4 i h L).1,(hO i h L).sl⟩⟩,OP.sl,by omega,OP,hO⟩,s3⟩
theorem yR:∀{a b:List Int},a.Pairwise (· < ·)->b.Pairwise (· < ·)->(∀x,x∈a↔x∈b)->a=b:=by
 intro a b e hb h;have c:a.Nodup:=by rw[Qx];exact e.imp λh=>by omega
 have d:b.Nodup:=by rw[Qx];exact hb.imp λh=>by omega
 have f:=(JM c d).2 h;exact f.eq_of_pairwise (λx y _ _ l o=>by omega) (e.imp λh=>Int.le_of_lt h) (hb.imp λh=>Int.le_of_lt h)
def Mg:Value->Bool
 |.bool true=>true
 |_=>false
theorem zQh{v:Value}:Mg v=true↔v=.bool true:=by
 unfold Mg;split<;>simp_all
theorem zGo{bs:Nat}{l:List (Int×Value)}{f:Int->Prop}(S:FM w bs l f):
  Sp PP 402 #[.map (some bs)] w λv w'=>(∃L:List Int,L.Pairwise (· < ·)/\(∀n,n∈L↔f n)/\AD w.heap.size 3 w' v L)/\AC w w':=by
 have J:=S.mp.2;have a4:=S.len;refine eN ?_;refine Oe rfl (Ix S.mp λr w2 nr K _=>?_);have hr:=nr.b
 refine IG Aa 8 [4,5] 3 (λi v u=>∃(done rest:List (Int×Value)) (L:List Int),rest.length=i/\(done++rest).Perm l/\L=(done.filter λp=>Mg p.2).map (·.1)/\AD w.heap.size 3 u v L/\Iu PP 3 u r bs rest/\AC w u) rfl
  ⟨_,[],l,[],rfl,.refl _,rfl,AD.nil _ _ _,K,stp⟩ ?_
 rintro i vl G u ⟨done,rest,L,hi,A,rfl,O,It,su⟩;have M:=A.length_eq;rw[Qb]at M;have a5:((done.filter λp=>Mg p.2).map (·.1)).length<=done.length:=by rw[Qr];exact Qv _ _
 refine Oe rfl (LM It (λo=>?_) λx v c t y hC I a6=>?_)
 ·subst o;rw[QE]at A;refine AA (zPI Tryz.sortI (f:=418) rfl O (by omega)) ?_;rintro _ t ⟨rfl,C,I⟩;have s2:Gl w u t:=Mu I;refine⟨⟨_,?_,λn=>?_,C⟩,stp⟩
  ·have N:=zOu ((done.filter λp=>Mg p.2).map (·.1));have z:=vW ((done.filter λp=>Mg p.2).map (·.1))
   have Q:((done.filter λp=>Mg p.2).map (·.1)).Nodup:=by
    have T:(done.map (·.1)).Nodup:=(A.map _).nodup_iff.2 J;exact T.sublist ((XY ..).map _)
   have E:=z.nodup_iff.2 Q;rw[Qx]at E;exact(N.and E).imp λ{a b} ⟨g1,g2⟩=>by omega
  ·rw[(vW _).mem_iff,S.has,<-A.mem_iff,Qq];constructor
   ·rintro⟨⟨p1,p2⟩,z,rfl⟩;have U:=QC.1 z;obtain⟨T,h2⟩:=U;rw[<-zQh.1 h2];exact T
   ·intro h;exact⟨_,QC.2 ⟨h,rfl⟩,rfl⟩
 ·have V:(x,v)∈l:=A.mem_iff.1 (JJ _ (y.mem_iff.1 Qs));have U:=S.bool _ V;obtain⟨xb,F⟩:=U;simp only at F;subst F;have s2:AC w t:=⟨Fr.st su.e I λi hi=>by omega⟩
  have H:(done++[(x,Value.bool xb)]++c).Perm l:=by
   rw[Qp];exact(Vp done y).trans A
  have W:=y.length_eq;rw[QA]at W;have C:AD w.heap.size 3 t vl ((done.filter λp=>Mg p.2).map (·.1)):=O.itq (It.itq I (Qe r));refine Oe rfl (Iw hC ?_)
  cases xb with
  |true =>
   refine bS x λb6 X e6 _ S6=>Ax (u:=w) ⟨rfl,rfl⟩ (C.up (w':=X)) S6 (by omega) λv7 Y O7 f7 s7=>?_
   have Z:((done++[(x,Value.bool true)]).filter λp=>Mg p.2).map (·.1)=(done.filter λp=>Mg p.2).map (·.1)++[x]:=by
    rw[QV,QB];simp[Mg]
   rw[<-Z]at O7;have a0:=hC.b.up (w':=X);have a1:=a0.fro (C.up (w':=X)) f7;have fin:∃(done d:List (Int×Value)) (L:List Int),d.length=c.length/\(done++d).Perm l/\L=(done.filter λp=>Mg p.2).map (·.1)/\AD w.heap.size 3 Y v7 L/\Iu PP 3 Y r bs d/\AC w Y:=⟨done++[(x,Value.bool true)],c,_,rfl,H,rfl,O7,a1,stp⟩;exact⟨c.length,by omega,fin⟩
  |false =>
   have Z:((done++[(x,Value.bool false)]).filter λp=>Mg p.2).map (·.1)=(done.filter λp=>Mg p.2).map (·.1):=by
    rw[QV,QB];simp[Mg]
   rw[<-Z]at C;have fin:∃(done d:List (Int×Value)) (L:List Int),d.length=c.length/\(done++d).Perm l/\L=(done.filter λp=>Mg p.2).map (·.1)/\AD w.heap.size 3 t vl L/\Iu PP 3 t r bs d/\AC w t:=⟨done++[(x,Value.bool false)],c,_,rfl,H,rfl,C,hC.b,s2⟩;exact⟨c.length,by omega,fin⟩
theorem y5(b:g.ws.length=g.n){s:ByteArray}(h:¬∃l∈g.ws,s∈l):Fj g s=[]:=by simp_all[Fj]
theorem qW{c:Nat}{C:List ByteArray}{ps:List MM}{s:ByteArray}(h:AQ w (.slice a n c) ps)(M:KE w g C ps)(F:Bb g)(S:ps.length<=100000):
  Sp PP 400 #[.slice a n c,.string s] w λv w'=>AD w.heap.size 3 w' v (Fj g s)/\AC w w':=by
 have H:=F.ok.n2;have d:=h.len;obtain rfl:=d;have I:=jN g s;refine eN ?_;refine cN 9 [4,6] 9 ps.length (λk u=>(∀x∈C.take k,x≠s)/\AC w u) ⟨by simp,stp⟩ ?_;rintro k G u T ⟨b,e⟩;refine ite (λAY=>?_) (λJ=>?_)
 ·have l:k<ps.length:=by omega
  have o:k<C.length:=by have:=M.len;omega
  have d:=M.at' k l o;obtain⟨p,r⟩:=d;refine Bv (h.up (w':=u)) (x:=ps[k]) (by simp) λU V K=>Ai K rfl (Ap λL W n2 N=>rE N (ps[k]) λy z O _=>?_);have z:Bk y L (enc ps[k]) 225:=z;have X:AC u y:=n2.st O;refine rX z rfl (DL (λA=>?_) (λA=>?_))
  ·rw[p]at A;rw[A]at r;refine rX z rfl (AA (Ze (r.up (w':=y)) (by omega)) ?_);rintro v Y ⟨Q,Z⟩;exact⟨Q.mono (lz w y),stp⟩
  ·refine rA ⟨rfl,l,λt f=>?_,stp⟩;rw[Cs o]at f;have d:=Qf.1 f;rcases d with f|f
   ·exact b t f
   ·rw[Qc.1 f,<-p];exact A
 ·have d:k=ps.length:=by omega
  obtain rfl:=d;rw[M.len,Qg]at b;rw[y5 F.nw λE=>b s ((M.all s).2 E) rfl];exact⟨AD.nil _ _ _,e⟩
theorem zHg{v:Value}:Sp PP 382 #[v] w λr w'=>r=.func (.func 383) #[v] #[]/\w'=w:=by
 refine eN ?_;exact⟨rfl,rfl⟩
theorem zFO{r:TypeId}{c l bl:Nat}{t:List ByteArray}{ps:List MM}{s:ByteArray}{bs:Nat}{x:List (Int×Value)}{f:Int->Prop}(h:AQ w (.slice a ps.length c) ps)(M:KE w g t ps)(o:Bb g)(y:ps.length<=100000)
  (W:Bk w l [.func (.func 382) #[] #[]] r)(L:Bk w bl [.slice a ps.length c] 154)(S:FM w bs x f):
  Sp PP 401 #[.map (some bs),.string s,.pointer (some ⟨l,0,none⟩),.pointer (some ⟨bl,0,none⟩)] w λv w'=>(∃b m,v=.map (some b)/\FM w' b m (λn=>f n/\n∈Fj g s))/\AC w w':=by
 have z:=jN g s;have A:=o.ok.n2;refine eN ?_;refine dD (λ_=>False) [0,1,3,4,2,5,6,7,8] λw1 T=>tX W rfl nf (tX L rfl nf ?_);refine AA zHg ?_;rintro _ d ⟨rfl,rfl⟩;refine⟨Fr.refl _ _,?_⟩;refine AA (qW (s:=s) (h.up (w':=d)) (M.up (w':=d)) o y) ?_;rintro v w2 ⟨p,C⟩;refine⟨C.e,?_⟩;have E:=p.shape;obtain⟨oa,oc,rfl⟩:=E;refine AA (vU p.sl (by omega)) ?_;rintro _ F ⟨⟨U,V,rfl,G,H⟩,I⟩;refine⟨I.e,?_⟩;refine AA (zHZ (S.up (w':=F)) G) ?_;rintro _ X ⟨⟨J,K,rfl,N,O⟩,Q⟩;refine⟨Q.e,?_⟩;exact⟨⟨J,K,rfl,N⟩,stp⟩
theorem yE{H:TypeId}{c c2 z bl:Nat}{I:List ByteArray}{ps:List MM}{l:List ByteArray}{bs:Nat}{A:List (Int×Value)}{f:Int->Prop}(h:AQ w (.slice a ps.length c) ps)(M:KE w g I ps)(J:Bb g)(K:ps.length<=100000)
  (W:Bk w z [.func (.func 382) #[] #[]] H)(L:Bk w bl [.slice a ps.length c] 154)(S:FM w bs A f)(C:AQ w (.slice a2 n2 c2) l)(N:l.length<=1000000):
  Sp PP 398 #[.map (some bs),.slice a2 n2 c2,.func (.func 401) #[] #[.pointer (some ⟨z,0,none⟩),.pointer (some ⟨bl,0,none⟩)]] w λv w'=>(∃b m,v=.map (some b)/\FM w' b m (λn=>f n/\∀s∈l,n∈Fj g s))/\AC w w':=by
 have r:=C.len;obtain rfl:=r;refine eN ?_;refine cO 11 [8] 0 11 l.length (λk v u=>(∃b m,v=.map (some b)/\FM u b m (λn=>f n/\∀s∈l.take k,n∈Fj g s))/\AC w u) ⟨⟨bs,A,rfl,by simpa using S⟩,stp⟩ ?_;rintro k v G u Y ⟨⟨b,m,rfl,t⟩,O⟩;refine ite (λAY=>?_) (λQ=>?_)
 ·have d:k<l.length:=by omega
  refine Bv (C.up (w':=u)) (x:=l[k]) (by simp) λZ o1 T=>AF (T.cell0 rfl) (AA (zFO (s:=l[k]) (h.up (w':=u)) (M.up (w':=u)) J K (W.mv (w:=u)) (L.mv (w:=u)) t) ?_);rintro _ U ⟨⟨E,F,rfl,o⟩,e2⟩
  have V:FM U E F (λn=>f n/\∀s∈l.take (k+1),n∈Fj g s):=⟨o.mp,o.bool,λn=>by
   rw[<-o.has,Cs d];simp only[Qf,Qc];constructor
   ·rintro⟨y,p⟩;exact⟨⟨y,λs e=>p s (.inl e)⟩,p _ (.inr rfl)⟩
   ·rintro⟨⟨y,p⟩,X⟩;refine⟨y,λs e=>?_⟩;rcases e with e|rfl
    ·exact p s e
    ·exact X,o.len⟩
  exact rA ⟨rfl,d,⟨E,F,rfl,V⟩,stp⟩
 ·have r:k=l.length:=by omega
  obtain rfl:=r;rw[Qg]at t;exact⟨⟨b,m,rfl,t⟩,O⟩
theorem zNq{q:List ByteArray}{L:List Int}(l:L.Pairwise (· < ·))(o:q≠[])(p:∀n,n∈L↔∀s∈q,n∈Fj g s):L=Af g q:=by
 refine yR l ?_ λn=>?_
 ·unfold Af;rw[QY];exact(List.pairwise_lt_range.filter _).imp λh=>by omega
 ·rw[p];unfold Af;simp only[Qq,QC,Q0,XL,VA];constructor
  ·intro h;have b:=List.exists_cons_of_ne_nil o;obtain⟨t,r,rfl⟩:=b;have b:=aC.1 (h t Qs);obtain⟨v,rfl,c,_⟩:=b;refine⟨v,⟨c,λs d=>?_⟩,rfl⟩;have b:=aC.1 (h s d);obtain⟨x,e,_,f⟩:=b;have b:v=x:=by omega
   obtain rfl:=b;exact f
  ·rintro⟨v,⟨c,f⟩,rfl⟩ s d;exact aC.2 ⟨v,rfl,c,f s d⟩
theorem zIB{c c2:Nat}{G:List ByteArray}{ps:List MM}{q:List ByteArray}(h:AQ w (.slice a n c) ps)(M:KE w g G ps)(z:Bb g)(C:ps.length<=100000)(A:AQ w (.slice a2 n2 c2) q)(o:q≠[])(H:q.length<=1000000):
  Sp PP 335 #[.slice a n c,.slice a2 n2 c2] w λv w'=>(∃b,v=.tuple #[b,.int .i64 0]/\AD w.heap.size 3 w' b (Af g q))/\AC w w':=by
 have d:=h.len;obtain rfl:=d;have d:=A.len;obtain rfl:=d;have I:=z.ok.n2;have f:0<q.length:=JI.2 o
 have J:Sp PP 381 #[.slice a ps.length c,.slice a2 q.length c2,.func (.func 382) #[] #[]] w λv w'=>(∃b,v=.tuple #[b,.int .i64 0]/\AD w.heap.size 3 w' b (Af g q))/\AC w w':=by
  refine eN ?_;refine BM λbl w1 n1 t=>BM λbw w2 n2 K=>iF (by omega) ?_;have t:Bk w1 bl [.slice a ps.length c] 154:=t;have N:=jN g q[0];refine dD (λ_=>False) [0,1,2,3,6,7,8,4,5,9,10] λy e3=>tX t rfl nf (CL (i:=0) (A.up (w':=y)) (x:=q[0]) (by simp[f]) λb4 o4 O _=>AP (O.cell0 rfl) nf (Wv (some 1) none (A.up (w':=y)) (by simp;omega) (by simp) λa5 c5 Q=>?_));refine AA (qW (s:=q[0]) (h.up (w':=y)) (M.up (w':=y)) z C) ?_;rintro v w4 ⟨E,S⟩;refine⟨S.e,?_⟩;have d:=E.shape;obtain⟨oa,oc,rfl⟩:=d;refine AA (vU E.sl (by omega)) ?_;rintro _ p ⟨⟨b5,m5,rfl,T,U⟩,V⟩;refine⟨V.e,?_⟩;refine AA (yE (h.up (w':=p)) (M.up (w':=p)) z C (K.mv (w:=p)) (t.mv (w:=p)) T (Q.up (w':=p)) (by simp;omega)) ?_;rintro _ W ⟨⟨b6,m6,rfl,X⟩,Y⟩;refine⟨Y.e,?_⟩;refine AA (zGo X) ?_;rintro v w7 ⟨⟨L,Z,hm,F⟩,e7⟩
  have e8:L=Af g q:=zNq Z o λn=>by
   rw[hm,lQ]
   have e9:q=q[0]::q.drop 1:=by
    cases q with
    |nil=>simp at f
    |cons x r=>rfl
   constructor
   ·rintro⟨h1,h2⟩ s l;rw[e9]at l;have d:=Ql.1 l;rcases d with rfl|l
    ·exact h1
    ·exact h2 s l
   ·intro h;exact⟨h _ (Qa f),λs l=>h s (List.mem_of_mem_drop l)⟩
  rw[e8]at F;exact⟨⟨v,rfl,F.mono (lz w W)⟩,stp⟩
 refine eN ?_;refine AA J ?_;rintro _ w2 ⟨⟨b,rfl,O2⟩,e2⟩;exact⟨⟨b,rfl,O2⟩,stp⟩
structure HN (S:List AN) (dir:Int) (m:List (Int×Value)):Prop where
 val:∀p∈m,∃x∈S,x.key.dir=dir/\p.1=x.key.v/\p.2=.int .i64 x.d/\∀y∈S,y.key.dir=dir->y.key.v=x.key.v->x.d<=y.d
 all:∀x∈S,x.key.dir=dir->∃v,(x.key.v,v)∈m
theorem HN.skip{S:List AN}{dir:Int}{m:List (Int×Value)}{x:AN}(h:HN S dir m)(d:x.key.dir≠dir):HN (S++[x]) dir m:=by
 refine⟨λp e=>?_,λy b hd=>?_⟩
 ·have c:=h.val p e;obtain⟨z,f,l,o,r,h5⟩:=c;refine⟨z,QN _ f,l,o,r,λy b hd t=>?_⟩;have c:=Qf.1 b;rcases c with b|b
  ·exact h5 y b hd t
  ·rw[Qc.1 b]at hd;exact absurd hd d
 ·have c:=Qf.1 b;rcases c with b|b
  ·exact h.all y b hd
  ·rw[Qc.1 b]at hd;exact absurd hd d
theorem HN.set{S:List AN}{dir:Int}{m:List (Int×Value)}{x:AN}(h:HN S dir m)(l:(m.map (·.1)).Nodup)(A:x.key.dir=dir)(o:∀y∈S,y.key.dir=dir->y.key.v=x.key.v->x.d<=y.d):HN (S++[x]) dir (CW x.key.v (.int .i64 x.d) m):=by
 refine⟨λp C=>?_,λy b hd=>?_⟩
 ·obtain⟨I,J⟩:=p;have c:=(KI l).1 C;rcases c with⟨r,t⟩|⟨r,t⟩
  ·subst r;subst t;refine⟨x,by simp,A,rfl,rfl,λy b hd f=>?_⟩;have c:=Qf.1 b;rcases c with b|b
   ·exact o y b hd f
   ·rw[Qc.1 b];exact Vr _
  ·have c:=h.val _ t;obtain⟨z,E,F,h5,G,H⟩:=c;refine⟨z,QN _ E,F,h5,G,λy b hd f=>?_⟩;have c:=Qf.1 b;rcases c with b|b
   ·exact H y b hd f
   ·rw[Qc.1 b]at f;exact absurd (h5.trans f.symm) r
 ·have c:=Qf.1 b;rcases c with b|b
  ·have c:=h.all y b hd;obtain⟨v,f⟩:=c;by_cases e:y.key.v=x.key.v
   ·exact⟨_,(KI l).2 (.inl ⟨e,rfl⟩)⟩
   ·exact⟨v,(KI l).2 (.inr ⟨e,f⟩)⟩
  ·rw[Qc.1 b];exact⟨_,(KI l).2 (.inl ⟨rfl,rfl⟩)⟩
theorem HN.keep{S:List AN}{dir:Int}{m:List (Int×Value)}{x z:AN}(h:HN S dir m)(o:z∈S)(c:z.key.dir=dir)(e:z.key.v=x.key.v)(r:¬x.d<z.d):HN (S++[x]) dir m:=by
 refine⟨λp t=>?_,λy b hd=>?_⟩
 ·have f:=h.val p t;obtain⟨u,A,C,E,F,h5⟩:=f;refine⟨u,QN _ A,C,E,F,λy b hd l=>?_⟩;have f:=Qf.1 b;rcases f with b|b
  ·exact h5 y b hd l
  ·rw[Qc.1 b]at l ⊢;have:=h5 z o c (e.trans l);omega
 ·have f:=Qf.1 b;rcases f with b|b
  ·exact h.all y b hd
  ·rw[Qc.1 b,<-e];exact h.all z o c
theorem iH{c:Nat}{S:List AN}{dir:Int}(h:AQ w (.slice a n c) S)(hn:S.length<=100000):
  Sp PP 255 #[.slice a n c,.int .i64 dir] w λv w'=>(∃b m,v=.map (some b)/\Cy PP 3 w' b m/\HN S dir m/\m.length<=S.length/\w.heap.size<=b)/\AC w w':=by
 have r:=h.len;obtain rfl:=r;refine eN ?_;refine K0 (kt:=3) (κ:=Int) rfl λG w1 n1 U=>?_;have hb:=n1.lo (u:=w);refine cN 13 [7,8,9] 13 S.length (λk u=>∃m,Cy PP 3 u G m/\HN (S.take k) dir m/\m.length<=k/\AC w u) ⟨[],U,⟨by simp,by simp⟩,by simp,stp⟩ ?_;rintro k g u hk ⟨m,M,C,V,W⟩;have t:=M.2;refine ite (λAY=>?_) (λX=>?_)
 ·have f:k<S.length:=by omega
  have o:S.take (k+1)=S.take k++[S[k]]:=Cs f;refine Bv (h.up (w':=u)) (x:=S[k]) (by simp) λb1 o1 Y=>Ai Y rfl (Ap λZ u2 n2 z2=>?_);have a0:=n2.b;have a1:=n2.s;refine rE z2 (S[k]) λH p f3 _=>?_;have p:Bk H Z (enc S[k]) 341:=p;have a4:=M.lt;have s3:AC u H:=⟨Fr.st (lE u u2) f3 λi hi=>by omega⟩;have A:Cy PP 3 H G m:=M.up;refine rX p rfl ?_
  cases F:Au m S[k].key.v with
  |none =>
   have E:∀y∈S.take k,y.key.dir=dir->y.key.v=S[k].key.v->S[k].d<=y.d:=λy I hd e=>by
    have r:=C.all y I hd;obtain⟨v,hv⟩:=r;have:=TQ t hv;rw[e,F]at this;cases this
   refine Ni A.l S[k].key.v rfl F ?_;refine rX p rfl (ite (λhd=>?_) (λhd=>?_))
   ·refine rX p rfl (rX p rfl ?_);refine Cv A S[k].key.v rfl λu6 J K _=>?_;exact rA ⟨rfl,f,_,J,by rw[o];exact C.set t hd E,Qw (ZZ _ _ _) (by omega),⟨Fr.st (Le.e (a:=w)) K λi hi=>by omega⟩⟩
   ·exact rA ⟨rfl,f,m,A,by rw[o];exact C.skip hd,by omega,stp⟩
  |some v =>
   have L:=SJ F;have r:=C.val _ L;obtain⟨z,h1,h2,N,Q,h5⟩:=r;simp only at N Q;subst Q;refine ND A.l S[k].key.v rfl F ?_;refine rX p rfl (ite (λhd=>?_) (λhd=>?_))
   ·refine rX p rfl (ite (λT=>?_) (λT=>?_))
    ·have E:∀y∈S.take k,y.key.dir=dir->y.key.v=S[k].key.v->S[k].d<=y.d:=λy I O e=>by
      have:=h5 y I O (e.trans N);omega
     refine rX p rfl (rX p rfl ?_);refine Cv A S[k].key.v rfl λu6 J K _=>?_;exact rA ⟨rfl,f,_,J,by rw[o];exact C.set t hd E,Qw (ZZ _ _ _) (by omega),⟨Fr.st (Le.e (a:=w)) K λi hi=>by omega⟩⟩
    ·exact rA ⟨rfl,f,m,A,by rw[o];exact C.keep h1 h2 N.symm T,by omega,stp⟩
   ·exact rA ⟨rfl,f,m,A,by rw[o];exact C.skip hd,by omega,stp⟩
 ·have r:k=S.length:=by omega
  obtain rfl:=r;rw[Qg]at C;exact⟨⟨G,m,rfl,M,C,V,hb⟩,W⟩
theorem OR(f:Bool)(n:Int)(a:OA)(m c:Nat):∀u∈[Value.bool f,.int .i64 n,.slice a m c],u.oneCell'=true:=by
 intro u b;simp at b;rcases b with rfl|rfl|rfl<;>rfl
def Ef (mb done:List (Int×Value)) (f:Bool) (n:Int):Prop:=
 (f=false/\n=0/\∀p∈done,Au mb p.1=none) \/
 (f=true/\(∃p∈done,∃b d:Int,Au mb p.1=some (.int .i64 b)/\p.2=.int .i64 d/\n=d+b)/\∀p∈done,∀b d:Int,Au mb p.1=some (.int .i64 b)->p.2=.int .i64 d->n<=d+b)
theorem HN.get{S:List AN}{dir:Int}{m:List (Int×Value)}(h:HN S dir m){k:Int}{v:Value}(e:Au m k=some v):∃z∈S,z.key.dir=dir/\z.key.v=k/\v=.int .i64 z.d/\∀y∈S,y.key.dir=dir->y.key.v=k->z.d<=y.d:=by
 have f:=h.val _ (SJ e);obtain⟨z,l,o,b,c,h5⟩:=f;simp only at b c;exact⟨z,l,o,b.symm,c,λy p hd r=>h5 y p hd (r.trans b)⟩
def FO (S:List AN):Gk:=match Hr (Ki S) with
 |some m=>⟨true,m,[]⟩
 |none=>ER
theorem zO3{S:List AN}{ma L:List (Int×Value)}{f:Bool}{n:Int}(A:HN S 0 ma)(B:HN S 1 L)(o:(L.map (·.1)).Nodup)(h:Ef L ma f n):(FO S)=⟨f,n,[]⟩:=by
 rcases h with⟨rfl,rfl,h1⟩|⟨rfl,⟨p,hp,b,d,hb,hd,rfl⟩,h2⟩
 ·have:Ki S=[]:=by
   cases hs:Ki S with
   |nil=>rfl
   |cons y r =>
    have M:y∈Ki S:=by simp_all
    have c:=dH.1 M;obtain⟨x,N,z,O,e,l,Q,_⟩:=c;have c:=A.all x N e;obtain⟨v,hv⟩:=c;have hn:=h1 _ hv;have c:=B.all z O l;obtain⟨v',T⟩:=c;have:=TQ o T;rw[Q]at this;simp only at hn;rw[hn]at this;cases this
  unfold FO;rw[this];rfl
 ·have hm:Hr (Ki S)=some (d+b):=by
   have c:=A.val p hp;obtain⟨x,N,e,U,C,a1⟩:=c;have c:=B.get hb;obtain⟨z,O,V,l,W,a4⟩:=c;rw[hd]at C;cases C;cases W;refine vR.2 ⟨dH.2 ⟨x,N,z,O,e,V,l.trans U,rfl⟩,λy M=>?_⟩;have c:=dH.1 M;obtain⟨x',E,z',F,h0,G,hv,rfl⟩:=c;have c:=A.all x' E h0;obtain⟨v,H⟩:=c;have c:=A.val _ H;obtain⟨u,hu,a5,I,J,X⟩:=c;have c:=B.all z' F G;obtain⟨v',K⟩:=c;have Y:=TQ o K;have c:=B.get Y;obtain⟨t,ht,a6,a7,Z,a0⟩:=c;simp only at I J;subst Z;have:=h2 _ H t.d u.d (by simp_all) J;have:=X x' E h0 I;have:=a0 z' F G rfl;omega
  unfold FO;rw[hm]
theorem Ef.mem{c a b:List (Int×Value)}{f:Bool}{n:Int}(h:Ef c a f n)(d:∀p,p∈b↔p∈a):Ef c b f n:=by simp_all[Ef]
theorem Ef.skip{e done:List (Int×Value)}{f:Bool}{n x:Int}{v:Value}(h:Ef e done f n)(y:Au e x=none):Ef e (done++[(x,v)]) f n:=by
 rcases h with⟨l,o,r⟩|⟨l,⟨p,o,r⟩,z⟩
 ·refine .inl ⟨l,o,λp c=>?_⟩;have t:=Qf.1 c;rcases t with c|c
  ·exact r p c
  ·rw[Qc.1 c];exact y
 ·refine .inr ⟨l,⟨p,QN _ o,r⟩,λp c b d hb hd=>?_⟩;have t:=Qf.1 c;rcases t with c|c
  ·exact z p c b d hb hd
  ·rw[Qc.1 c]at hb;simp only at hb;rw[y]at hb;cases hb
theorem Ef.more{e done:List (Int×Value)}{n x d b:Int}(h:Ef e done true n)(o:Au e x=some (.int .i64 b))(f:n<=d+b):Ef e (done++[(x,.int .i64 d)]) true n:=by
 rcases h with⟨l,_⟩|⟨l,⟨p,r,t⟩,v⟩
 ·cases l
 ·refine .inr ⟨rfl,⟨p,QN _ r,t⟩,λp c y d' hb hd=>?_⟩;have z:=Qf.1 c;rcases z with c|c
  ·exact v p c y d' hb hd
  ·rw[Qc.1 c]at hb hd;simp only at hb hd;rw[o]at hb;cases hb;cases hd;exact f
theorem Ef.best{e done:List (Int×Value)}{f:Bool}{n x d b:Int}(h:Ef e done f n)(o:Au e x=some (.int .i64 b))(l:f=true->d+b<n):Ef e (done++[(x,.int .i64 d)]) true (d+b):=by
 refine .inr ⟨rfl,⟨_,JJ _ (Qc.2 rfl),b,d,o,rfl,rfl⟩,λp c t d' hb hd=>?_⟩;have v:=Qf.1 c;rcases v with c|c
 ·rcases h with⟨r,A,y⟩|⟨r,_,z⟩
  ·rw[y p c]at hb;cases hb
  ·have:=z p c t d' hb hd;have:=l r;omega
 ·rw[Qc.1 c]at hb hd;simp only at hb hd;rw[o]at hb;cases hb;cases hd;exact Vr _
theorem zK7{c:Nat}{S:List AN}(h:AQ w (.slice a n c) S)(hn:S.length<=100000)(hd:∀x∈S,0<=x.d/\x.d<=1000):
  Sp PP 254 #[.slice a n c] w λv w'=>v=agg (⟨(FO S).found,(FO S).num,⟨none,0,0⟩⟩:NN)/\AC w w':=by
 refine eN ?_;refine Ap λbr w1 n1 Z=>Ap λV w2 n2 A2=>?_;have a9:=n1.b;have b1:=n1.s;have b2:=n2.b;have b3:=n2.s;have Z:Bk w1 br [.bool false,.int .i64 0,.slice none 0 0] 171:=Z;have A2:Bk w2 V [.bool false,.int .i64 0,.slice none 0 0] 171:=A2;refine AA (iH (dir:=1) (h.up (w':=w2)) hn) ?_;rintro _ w3 ⟨⟨bb,U,rfl,MB,LB,b4,b5⟩,e3⟩;refine AA (iH (dir:=0) (h.up (w':=w3)) hn) ?_;rintro _ w4 ⟨⟨b0,ma,rfl,MA,LA,b6,b7⟩,e4⟩;have z3:=e3.e.size;have z4:=e4.e.size;have a0:=MB.2;refine Oe rfl (Ix MA λr w5 nr a1 _=>?_);have hr:=nr.b;have b8:=nr.s
 refine Mx Aa 14 [5,6,7,8] (λi u=>∃(done rest:List (Int×Value)) (f:Bool) (H:Int),rest.length=i/\(done++rest).Perm ma/\Ef U done f H/\Bk u V [.bool f,.int .i64 H,.slice none 0 0] 171/\Bk u br [.bool false,.int .i64 0,.slice none 0 0] 171/\Cy PP 3 u bb U/\Iu PP 3 u r b0 rest/\AC w u) rfl
  ⟨_,[],ma,false,0,rfl,.refl _,.inl ⟨rfl,rfl,by simp⟩,A2.mv,Z.mv,MB.up,a1,stp⟩ ?_
 rintro i G u ⟨done,rest,f,H,hi,hp,W,KA,KR,Mb,It,su⟩;refine Oe rfl (LM It (λK=>?_) λx v o u5 L hC f5 b9=>?_)
 ·subst K;rw[QE]at hp;have e:=zO3 LA LB a0 (W.mem λp=>hp.mem_iff.symm);have e2:Value.agg [Value.bool f,.int .i64 H,.slice none 0 0].toArray=agg (⟨(FO S).found,(FO S).num,⟨none,0,0⟩⟩:NN):=by rw[e];rfl
  refine Cq (ds:=[.bool f,.int .i64 H,.slice none 0 0]) (B:=KA) rfl rfl (rS KR [.bool f,.int .i64 H,.slice none 0 0] (OR _ _ _ _ _) λE M F _=>?_);have M:Bk E br [.bool f,.int .i64 H,.slice none 0 0] 171:=M;have X:AC w E:=⟨Fr.st su.e F λi hi=>by omega⟩;exact AR (B:=M) rfl ⟨e2,X⟩
 ·have a4:(x,v)∈ma:=hp.mem_iff.1 (JJ _ (L.mem_iff.1 Qs));have⟨z,a5,c0,a6,Y,c1⟩:=LA.val _ a4;simp only at a6 Y;subst Y;have c2:=hd z a5;have la:=A2.lt;have lr:=Z.lt;have c3:=lz w2 w4;have A:=KA.fr f5 (by omega);have I:=KR.fr f5 (by omega);have c4:=MB.lt;have C:Cy PP 3 u5 bb U:=Mb.fr f5 (by omega);have s5:AC w u5:=⟨Fr.st su.e f5 λi hi=>by omega⟩
  have J:(done++[(x,Value.int .i64 z.d)]++o).Perm ma:=by
   rw[Qp];exact(Vp done L).trans hp
  have a7:=L.length_eq;rw[QA]at a7;refine Oe rfl (Iw hC ?_)
  cases N:Au U x with
  |none =>
   refine Ni C.l x rfl N ?_;exact⟨o.length,by omega,_,o,f,H,rfl,J,W.skip N,A,I,C,hC.b,s5⟩
  |some bv =>
   have q_:=LB.get N;obtain⟨t,a8,c5,c6,rfl,c7⟩:=q_;have c8:=hd t a8;refine ND C.l x rfl N ?_;refine rX A rfl ?_;have c9:V<u5.heap.size:=A.lt
   cases f with
   |false =>
    refine IV (y:=z.d+t.d) rfl (by omega) (AJ (cs:=[.bool true,.int .i64 (z.d+t.d),.slice none 0 0]) rfl (rS A [.bool true,.int .i64 (z.d+t.d),.slice none 0 0] (OR _ _ _ _ _) λE O F _=>?_));have O:Bk E V [.bool true,.int .i64 (z.d+t.d),.slice none 0 0] 171:=O;have M:=I.fr F (by omega);have Q:Cy PP 3 E bb U:=C.fr F (by omega);have T:Iu PP 3 E r b0 o:=hC.b.fr F (by omega) (by omega);have X:AC w E:=⟨Fr.st s5.e F λi hi=>by omega⟩;exact⟨o.length,by omega,_,o,true,z.d+t.d,rfl,J,W.best N (λh=>(by cases h)),O,M,Q,T,X⟩
   |true =>
    refine IV (y:=z.d+t.d) rfl (by omega) (rX A rfl (ite (λhl=>?_) (λhl=>?_)))
    ·refine IV (y:=z.d+t.d) rfl (by omega) (AJ (cs:=[.bool true,.int .i64 (z.d+t.d),.slice none 0 0]) rfl (rS A [.bool true,.int .i64 (z.d+t.d),.slice none 0 0] (OR _ _ _ _ _) λE O F _=>?_));have O:Bk E V [.bool true,.int .i64 (z.d+t.d),.slice none 0 0] 171:=O;have M:=I.fr F (by omega);have Q:Cy PP 3 E bb U:=C.fr F (by omega);have T:Iu PP 3 E r b0 o:=hC.b.fr F (by omega) (by omega);have X:AC w E:=⟨Fr.st s5.e F λi hi=>by omega⟩;exact⟨o.length,by omega,_,o,true,z.d+t.d,rfl,J,W.best N (λ_=>hl),O,M,Q,T,X⟩
    ·exact⟨o.length,by omega,_,o,true,H,rfl,J,W.more N (by omega),A,I,C,hC.b,s5⟩
section
variable {P:Program} {kt:TypeId} {κ:Type} [DecidableEq κ] [M:Em P kt κ] {D:Nat->Prop} {k:Value->Prop} {w:World}
theorem Uw{t e:TypeId}{z:Value}{sz c:Nat}[l:EL P t kt e][o:AX P e z sz c]{b:Nat}{m:List (κ×Value)}{d:Value}(h:BO P kt w b m)(hd:¬D b)(x:κ)(f:d=M.val x)(p:Au m x=none)(r:k (.tuple #[z,.bool false])):Ar P (Instr.lookup t (.map (some b)) d true) D k w:=
 Ri h hd x f (by simp_all)
theorem UW{t e:TypeId}{z:Value}{sz c:Nat}[l:EL P t kt e][o:AX P e z sz c]{b:Nat}{m:List (κ×Value)}{d:Value}(h:BO P kt w b m)(hd:¬D b)(x:κ)(f:d=M.val x){v:Value}(p:Au m x=some v)(r:k (.tuple #[v,.bool true])):Ar P (Instr.lookup t (.map (some b)) d true) D k w:=
 Ri h hd x f (by simp_all)
end
def Kc (B:Nat) (w:World) (v:Value) (p:Gk):Prop:=∃x:NN,v=agg x/\x.found=p.found/\x.num=p.num/\AD B 142 w (.slice x.s.a x.s.n x.s.c) p.hits
theorem zNT(b:List Int)(S:List AN)(x:AN):CR b (S++[x])=CR b S++if x.key.dir=0/\x.key.v∈b then[⟨x.key.v,x.d⟩] else[]:=by
 unfold CR;rw[QV,QB];congr 1;by_cases h:x.key.dir=0/\x.key.v∈b
 ·simp[h]
 ·rw[if_neg h];have c:x.key.dir=0->x.key.v∉b:=λe f=>h ⟨e,f⟩;simpa using c
theorem mV(b:List Int)(S:List AN):(CR b S).length<=S.length:=by
 unfold CR;rw[Qr];exact Qv _ _
theorem zL0(g:An)(b:List ByteArray):(Af g b).length<=g.n:=by
 unfold Af;rw[Qr];exact Qw (Qv _ _) (by simp)
theorem wY{xq:RQ}{ws:List ByteArray}{ps:List MM}{c c2:Nat}{S:List AN}(V:UF w xq q)(X:Bb g)(h:AQ w (.slice a n c) ps)(M:KE w g ws ps)(H:ps.length<=100000)
  (Y:AQ w (.slice a2 n2 c2) S)(a0:S.length<=1000)(I:q.words≠[])(a1:q.words.length<=1000):
  Sp PP 256 #[agg xq,.slice a n c,.slice a2 n2 c2] w λv w'=>Kc w.heap.size w' v ⟨!(CN q.most (CR (Af g q.words) S)).isEmpty,0,CN q.most (CR (Af g q.words) S)⟩/\AC w w':=by
 have f:=h.len;obtain rfl:=f;have f:=Y.len;obtain rfl:=f;have a4:=X.ok.n2;have J:=zL0 g q.words;obtain⟨k1,k2,k3,kw,k4,k5⟩:=V;refine eN ?_;refine BM λbq w1 n1 Z=>Ap λbr w2 n2 K=>?_;have K:Bk w2 br [.bool false,.int .i64 0,.slice none 0 0] 171:=K;have a5:=n1.b;have a6:=n1.s;have a7:=n2.b;have a8:=n2.s;refine rX Z rfl (AA (zIB (h.up (w':=w2)) (M.up (w':=w2)) X H (kw.up (w':=w2)) I (by omega)) ?_);rintro _ L ⟨⟨pv,rfl,OP⟩,e3⟩;refine iF (· rfl) ?_;have f:=OP.shape;obtain⟨pa,pc,rfl⟩:=f;refine cO 24 [11] 9 24 S.length (λk v u=>AD L.heap.size 142 u v (CR (Af g q.words) (S.take k))/\AC L u) ⟨AD.nil _ _ _,stp⟩ ?_;rintro k v G u hk ⟨O,su⟩;refine ite (λAY=>?_) (λa9=>?_)
 ·have l:k<S.length:=by omega
  have e:=zNT (Af g q.words) (S.take k) S[k];rw[<-Cs l]at e;have A:=mV (Af g q.words) (S.take k);rw[Qm]at A;refine Bv (Y.up (w':=u)) (x:=S[k]) (by simp) λb4 o4 A4=>Ai A4 rfl (Ap λb5 u5 n5 z5=>?_);have b0:=n5.b;have b1:=n5.s;refine rE z5 (S[k]) λE p f6 _=>?_;have p:Bk E b5 (enc S[k]) 341:=p;have s6:AC u E:=⟨Fr.st (lE u u5) f6 λi hi=>by omega⟩;refine rX p rfl (ite (λhd=>?_) (λhd=>?_))
  ·refine rX p rfl (AA (qH (x:=S[k].key.v) (OP.sl.up (w':=E)) (by omega)) ?_);rintro _ u7 ⟨⟨rfl,F⟩|⟨rfl,F⟩,e7⟩
   ·rw[if_pos ⟨hd,F⟩]at e;refine rX p rfl (rX p rfl ?_);refine AJ (cs:=enc (⟨S[k].key.v,S[k].d⟩:AG)) rfl (bS (⟨S[k].key.v,S[k].d⟩:AG) λb8 u8 n8 _ S8=>Ax (u:=L) ⟨rfl,rfl⟩ (O.up (w':=u8)) S8 (by omega) λv9 u9 O9 f9 s9=>?_);rw[<-e]at O9;exact rA ⟨rfl,l,O9,stp⟩
   ·rw[if_neg (λh=>F h.2),QE]at e;have C:=O.up (w':=u7);rw[<-e]at C;exact rA ⟨rfl,l,C,stp⟩
  ·rw[if_neg (λh=>hd h.1),QE]at e;have C:=O.up (w':=E);rw[<-e]at C;exact rA ⟨rfl,l,C,stp⟩
 ·have f:k=S.length:=by omega
  obtain rfl:=f;rw[Qg]at O;have A:=mV (Af g q.words) S;have f:=O.shape;obtain⟨ha,F,rfl⟩:=f;refine rX Z rfl (AA (zJG (k:=xq.most) (O.sl) (by omega)) ?_);rintro v N ⟨Q,e2⟩;have T:(if xq.most<1 then[] else Ei xq.most (CR (Af g q.words) S))=CN q.most (CR (Af g q.words) S):=by rw[k5];rfl
  rw[T]at Q;have U:=K.mv (w:=N);have zu:=lz w u;have f:=Q.shape;obtain⟨t,y,rfl⟩:=f
  have fin:∀(o:World) (b:Bool),b = !(CN q.most (CR (Af g q.words) S)).isEmpty->Fr (λi=>i=br) N o->Kc w.heap.size o (.agg [Value.bool b,.int .i64 0,.slice t (CN q.most (CR (Af g q.words) S)).length y].toArray) ⟨!(CN q.most (CR (Af g q.words) S)).isEmpty,0,CN q.most (CR (Af g q.words) S)⟩/\AC w o:=λo b hb z =>
   ⟨⟨⟨b,0,⟨t,(CN q.most (CR (Af g q.words) S)).length,y⟩⟩,rfl,hb,rfl,(Q.mono zu).frc z U⟩,⟨Fr.st (lE w N) z λi hi=>by omega⟩⟩
  refine ite (λKw=>?_) (λKw=>?_)
  ·have hb:true = !(CN q.most (CR (Af g q.words) S)).isEmpty:=by
    cases hh:CN q.most (CR (Af g q.words) S) with
    |nil=>rw[hh]at Kw;simp at Kw
    |cons x r=>rfl
   refine AJ (cs:=[.bool true,.int .i64 0,.slice t (CN q.most (CR (Af g q.words) S)).length y]) rfl (rS U [.bool true,.int .i64 0,.slice t (CN q.most (CR (Af g q.words) S)).length y] (OR _ _ _ _ _) λo W z _=>?_);exact AR (B:=W) rfl (fin o true hb z)
  ·have hb:false = !(CN q.most (CR (Af g q.words) S)).isEmpty:=by simp_all
   refine AJ (cs:=[.bool false,.int .i64 0,.slice t (CN q.most (CR (Af g q.words) S)).length y]) rfl (rS U [.bool false,.int .i64 0,.slice t (CN q.most (CR (Af g q.words) S)).length y] (OR _ _ _ _ _) λo W z _=>?_);exact AR (B:=W) rfl (fin o false hb z)
theorem zHh{x:AN}{b:Nat}{d:Int}(K:Bk w b [.int .i64 d] 3):Sp PP 253 #[agg x,.pointer (some ⟨b,0,none⟩)] w λv w'=>Ao (x.key.dir=d) v/\AC w w':=by
 refine eN ?_;refine BM λe w1 n1 c=>rX c rfl (rX K rfl ?_);exact ite (λh=>⟨.t h,stp⟩) (λh=>⟨.f h,stp⟩)
theorem lY{M:List AN}{o:Nat}{d:Int}{c:Nat}(K:Bk w o [.slice a n c] 255)(h:AQ w (.slice a n c) M)(r:M.length<=1000000):Sp PP 252 #[.int .i64 d,.pointer (some ⟨o,0,none⟩)] w λv w'=>v=.bool (Eg M d)/\AC w w':=by
 refine eN ?_;refine BM λt w1 n1 z=>rX K rfl (AA (rY (g:=253) (first:=[]) (cap:=[.pointer (some ⟨t,0,none⟩)]) (p:=λx=>x.key.dir=d) (h.up (w':=w1)) r λx u E e=>zHh (z.fr e nf)) ?_);rintro _ w2 ⟨⟨rfl,b⟩|⟨rfl,b⟩,F⟩
 ·have:Eg M d=true:=by
   obtain⟨y,f,l⟩:=b;exact Vi.2 ⟨y,f,by simpa using l⟩
  rw[this];exact⟨rfl,stp⟩
 ·have:Eg M d=false:=by
   rw[Bool.eq_false_iff];intro l;have A:=Vi.1 l;obtain⟨y,f,C⟩:=A;exact b ⟨y,f,by simpa using C⟩
  rw[this];exact⟨rfl,stp⟩
theorem tQ{xq:RQ}{ws:List ByteArray}{ps:List MM}{c c2 c3:Nat}{S M:List AN}(V:UF w xq q)(hq:LZ q g.n)(W:Bb g)(h:AQ w (.slice a n c) ps)(Mp:KE w g ws ps)(a1:ps.length<=100000)
  (h2:AQ w (.slice a2 n2 c2) S)(a4:S.length<=1000)(a5:∀x∈S,0<=x.d/\x.d<=1000)(h3:AQ w (.slice a3 n3 c3) M)(b1:M.length<=1000):
  Sp PP 176 #[agg xq,.slice a n c,.slice a2 n2 c2,.slice a3 n3 c3] w λv w'=>(∃t,v=.tuple #[t,.bool (Az g q S M).2]/\Kc w.heap.size w' t (Az g q S M).1)/\AC w w':=by
 have C:=h3.len;obtain rfl:=C;have C:=h2.len;obtain rfl:=C;have C:=h.len;obtain rfl:=C;have a6:=hq.kind;obtain⟨k1,k2,k3,kw,k4,k5⟩:=V;refine eN ?_;refine BM λbq w1 n1 Bq=>BM λbm w2 n2 Bm=>Ap λH E n3 L=>?_;have L:Bk E H [.bool false,.int .i64 0,.slice none 0 0] 171:=L;have b2:=n1.b;have b3:=n1.s;have b4:=n2.b;have b6:=n2.s;have b7:=n3.b;have b8:=n3.s;refine rX Bq rfl (ite (λh1=>?_) (λh1=>?_))
 ·have N:Az g q S M=MT S M:=by unfold Az;rw[if_pos (by omega)]
  have MS:=zK7 (h2.up (w':=E)) (by omega) a5
  have e2:MT S M=((FO S),(FO S).found || (!Eg M 0 || !Eg M 1)):=by
   unfold MT FO;cases Hr (Ki S)<;>rfl
  have A:(FO S).hits=[]:=by unfold FO;cases Hr (Ki S)<;>rfl
  generalize FO S=P at MS e2 A;obtain⟨I,F,ph⟩:=P;simp only at A;subst A;have MS:Sp PP 254 #[.slice a2 S.length c2] E λv w'=>v=.agg #[.bool I,.int .i64 F,.slice none 0 0]/\AC E w':=MS;refine AA MS ?_;rintro _ K ⟨rfl,e4⟩;refine Ap λba w5 n5 Z5=>?_;have b9:=n5.b;have c0:=n5.s;refine rS Z5 [.bool I,.int .i64 F,.slice none 0 0] (OR _ _ _ _ _) λG A6 f6 _=>?_;have A6:Bk G ba [.bool I,.int .i64 F,.slice none 0 0] 171:=A6;have s6:AC K G:=⟨Fr.st (lE K w5) f6 λi hi=>by omega⟩;clear Z5 f6;have J:=L.mv (w:=G);have lr:=L.lt;have c1:=lz E K;have X:ba≠H:=by omega
  have fin:∀(u u':World) (b:Bool),AC G u->Bk u' H [.bool I,.int .i64 F,.slice none 0 0] 171->Fr (λi=>i=H) u u'->b=(I || (!Eg M 0 || !Eg M 1))->(∃t,Value.tuple #[.agg [Value.bool I,.int .i64 F,.slice none 0 0].toArray,.bool b]=.tuple #[t,.bool (Az g q S M).2]/\Kc w.heap.size u' t (Az g q S M).1)/\AC w u':=λu u' b s _ f hb=>by
   rw[N,e2,hb];exact⟨⟨_,rfl,⟨I,F,⟨none,0,0⟩⟩,rfl,rfl,rfl,AD.nil _ _ _⟩,⟨Fr.st (lE w u) f λi hi=>by omega⟩⟩
  refine dD (λi=>i=H) (Hn 15 0) λw7 e7=>MG (ds:=[.bool I,.int .i64 F,.slice none 0 0]) (B:=A6) rfl rfl X (tX A6 rfl X ?_)
  cases I with
  |true =>
   refine rS J [.bool _,.int .i64 F,.slice none 0 0] (OR _ _ _ _ _) λy p o _=>⟨o,?_⟩;refine AR (B:=p) rfl ?_;exact fin _ _ true stp p o rfl
  |false =>
   have D0:=lY (d:=0) (Bm.mv (w:=w7)) (h3.up (w':=w7)) (by omega)
   cases O:Eg M 0 with
   |false =>
    rw[O]at D0;refine AA D0 ?_;rintro _ w8 ⟨rfl,e8⟩;refine⟨Fr.fr e8.e,?_⟩;refine rS J [.bool _,.int .i64 F,.slice none 0 0] (OR _ _ _ _ _) λy p o _=>⟨o,?_⟩;refine AR (B:=p) rfl ?_;exact fin _ _ true stp p o (by rw[O];rfl)
   |true =>
    rw[O]at D0;refine AA D0 ?_;rintro _ w8 ⟨rfl,e8⟩;refine⟨Fr.fr e8.e,?_⟩;have D1:=lY (d:=1) (Bm.mv (w:=w8)) (h3.up (w':=w8)) (by omega)
    cases Y:Eg M 1 with
    |false =>
     rw[Y]at D1;refine AA D1 ?_;rintro _ w9 ⟨rfl,e9⟩;refine⟨Fr.fr e9.e,?_⟩;refine rS J [.bool _,.int .i64 F,.slice none 0 0] (OR _ _ _ _ _) λy p o _=>⟨o,?_⟩;refine AR (B:=p) rfl ?_;exact fin _ _ true stp p o (by simp_all)
    |true =>
     rw[Y]at D1;refine AA D1 ?_;rintro _ w9 ⟨rfl,e9⟩;refine⟨Fr.fr e9.e,?_⟩;refine rS J [.bool _,.int .i64 F,.slice none 0 0] (OR _ _ _ _ _) λy p o _=>⟨o,?_⟩;refine AR (B:=p) rfl ?_;exact fin _ _ false stp p o (by simp_all)
 refine ite (λa7=>?_) (λa7=>?_)
 ·have N:Az g q S M=HU q.to S M:=by unfold Az;rw[if_neg (by omega),if_pos (by omega)]
  refine dD (λ_=>False) [0,2,3,1,4,5,6,7,8,9] λK e4=>tX Bq rfl nf (AA (iH (dir:=0) (h2.up (w':=K)) (by omega)) ?_);rintro _ w5 ⟨⟨b5,m5,rfl,M5,L5,_,_⟩,e5⟩;refine⟨e5.e,?_⟩;have R5:=L.mv (w:=w5)
  cases W:Au m5 xq.to with
  |none =>
   have Q:HU q.to S M=(ER,M.isEmpty):=by
    unfold HU;rw[if_neg];intro Z;have C:=Vi.1 Z;obtain⟨x,hx,h4⟩:=C;simp only[decide_eq_true_eq]at h4;have C:=L5.all x hx h4.1;obtain⟨v,hv⟩:=C;have:=TQ M5.2 hv;rw[h4.2,<-k3,W]at this;cases this
   refine Uw M5.l nf xq.to rfl W ?_;refine dD (λi=>i=H) (Hn 10 0) λG e6=>As (cs:=[.bool false,.int .i64 0,.slice none 0 0]) rfl ?_;have J:=R5.mv (w:=G);have a8:bm≠H:=by omega
   refine tX Bm rfl a8 ?_
   have fin:∀(u:World) (b:Bool),Fr (λi=>i=H) G u->b=M.isEmpty->(∃t,Value.tuple #[.agg [Value.bool false,.int .i64 0,.slice none 0 0].toArray,.bool b]=.tuple #[t,.bool (Az g q S M).2]/\Kc w.heap.size u t (Az g q S M).1)/\AC w u:=λu b f hb=>by
    rw[N,Q,hb];exact⟨⟨_,rfl,⟨false,0,⟨none,0,0⟩⟩,rfl,rfl,rfl,AD.nil _ _ _⟩,⟨Fr.st (lE w G) f λi hi=>by omega⟩⟩
   refine ite (λh0=>?_) (λh0=>?_)
   ·have T:true=M.isEmpty:=by simp_all
    refine rS J [.bool false,.int .i64 0,.slice none 0 0] (OR _ _ _ _ _) λy p o _=>⟨o,?_⟩;exact AR (B:=p) rfl (fin y true o T)
   ·have T:false=M.isEmpty:=by simp_all
    refine rS J [.bool false,.int .i64 0,.slice none 0 0] (OR _ _ _ _ _) λy p o _=>⟨o,?_⟩;exact AR (B:=p) rfl (fin y false o T)
  |some v =>
   have Q:HU q.to S M=(⟨true,0,[]⟩,true):=by
    unfold HU;rw[if_pos];have C:=L5.get W;obtain⟨z,hz,c4,c5,_⟩:=C;exact Vi.2 ⟨z,hz,by simp_all⟩
   refine UW M5.l nf xq.to rfl W ?_;refine dD (λi=>i=H) (Hn 10 0) λG e6=>As (cs:=[.bool true,.int .i64 0,.slice none 0 0]) rfl ?_;have J:=R5.mv (w:=G);refine rS J [.bool true,.int .i64 0,.slice none 0 0] (OR _ _ _ _ _) λy p o _=>⟨o,?_⟩;refine AR (B:=p) rfl ?_
   have fin:(∃t,Value.tuple #[.agg [Value.bool true,.int .i64 0,.slice none 0 0].toArray,.bool true]=.tuple #[t,.bool (Az g q S M).2]/\Kc w.heap.size y t (Az g q S M).1)/\AC w y:=by
    rw[N,Q];exact⟨⟨_,rfl,⟨true,0,⟨none,0,0⟩⟩,rfl,rfl,rfl,AD.nil _ _ _⟩,⟨Fr.st (lE w G) o λi hi=>by omega⟩⟩
   exact fin
 refine ite (λa0=>?_) (λa0=>absurd a6 (by omega));have N:Az g q S M=KF (Af g q.words) q.most S M:=by unfold Az;rw[if_neg (by omega),if_neg (by omega),if_pos (by omega)]
 have U:=hq.near (by omega);refine rX Bm rfl (ite (λh0=>?_) (λh0=>?_))
 ·have T:M.isEmpty=false:=by
   cases M with
   |nil=>exact absurd h0 (by simp)
   |cons x r=>rfl
  have Q:KF (Af g q.words) q.most S M=(ER,false):=by unfold KF;rw[T];rfl
  refine AJ (cs:=[.bool false,.int .i64 0,.slice none 0 0]) rfl (rS L [.bool false,.int .i64 0,.slice none 0 0] (OR _ _ _ _ _) λy p o _=>AR (B:=p) rfl ?_)
  have fin:(∃t,Value.tuple #[.agg [Value.bool false,.int .i64 0,.slice none 0 0].toArray,.bool false]=.tuple #[t,.bool (Az g q S M).2]/\Kc w.heap.size y t (Az g q S M).1)/\AC w y:=by
   rw[N,Q];exact⟨⟨_,rfl,⟨false,0,⟨none,0,0⟩⟩,rfl,rfl,rfl,AD.nil _ _ _⟩,⟨Fr.st (lE w E) o λi hi=>by omega⟩⟩
  exact fin
 ·have T:M.isEmpty=true:=by simp_all
  have Q:KF (Af g q.words) q.most S M=(⟨!(CN q.most (CR (Af g q.words) S)).isEmpty,0,CN q.most (CR (Af g q.words) S)⟩,true):=by unfold KF;rw[T];rfl
  refine rG Bq xq (AA (wY (q:=q) ⟨k1,k2,k3,kw.up (w':=E),k4,k5⟩ W (h.up (w':=E)) (Mp.up (w':=E)) a1 (h2.up (w':=E)) a4 (by intro h;have:=U.1;rw[h]at this;simp at this) (by omega)) ?_);rintro v K ⟨⟨x,rfl,a9,b0,OX⟩,e4⟩;have R4:=L.mv (w:=K);refine rE R4 x λy p o _=>?_;have p:Bk y H (enc x) 171:=p;refine AR (B:=p) rfl ?_
  have fin:(∃t,Value.tuple #[.agg (enc x).toArray,.bool true]=.tuple #[t,.bool (Az g q S M).2]/\Kc w.heap.size y t (Az g q S M).1)/\AC w y:=by
   rw[N,Q];exact⟨⟨_,rfl,x,rfl,a9,b0,(OX.mono (lz w E)).frc o R4⟩,⟨Fr.st (lE w K) o λi hi=>by omega⟩⟩
  exact fin
theorem aP{n m:Int}:Sp PP 95 #[.int .i64 n,.int .i64 m] w λv w'=>Ao (1<=n/\n<=m) v/\w'=w:=by
 refine eN ?_;refine ite (λb=>?_) (λb=>⟨.f λh=>b h.1,rfl⟩);exact ite (λc=>⟨.t ⟨b,c⟩,rfl⟩) (λc=>⟨.f λh=>c h.2,rfl⟩)
theorem uH{id b:Int}{a:Gk}(h:BG (BN id b a) a.hits):Gp id b a=DM (BN id b a) a.hits:=if_pos h
theorem wG{id b:Int}{a:Gk}(h:¬BG (BN id b a) a.hits):Gp id b a=[]:=if_neg h
theorem iZ{id e:Int}:Sp PP 162 #[.int .i64 id,.int .i64 e] w λv w'=>v=Ag (Gp id e ER)/\AC w w':=by
 refine eN ?_;refine AJ (cs:=enc (BN id e ER)) rfl (AA (lT (x:=BN id e ER) (l:=[]) (AQ.nil' _ _ _) (by simp)) ?_);rintro _ w1 ⟨⟨b,rfl⟩|⟨c,rfl⟩,d⟩
 ·exact⟨congrArg Ag (uH (a:=ER) b).symm,stp⟩
 ·exact⟨congrArg Ag (wG (a:=ER) c).symm,stp⟩

def Zh:RQ:=⟨0,0,0,⟨none,0,0⟩,0,0⟩
def HD:Ay:=⟨0,0,Zh⟩
def BA:BC:=⟨false,HD⟩
def IM (l:List BC):Option Nat:=l.findIdx? (λh=>!h.used)
def MF (l:List BC) (x:Ay):Int×List BC×Int:=match IM l with
 |some k=>(k,l.set k ⟨true,x⟩,0)
 |none=>(0,[],140)
def MZ (l:List BC) (i:Int):List BC×Int:=
 if i<0\/(l.length:Int)<=i then([],1) else if(l.getD i.toNat BA).used then(l.set i.toNat BA,0) else([],141)
def Fm (l:List BC) (id:Int):Option Nat:=l.findIdx? (λh=>h.used && decide (h.r.id=id))
def UA (o:Option Nat):Int×Bool:=match o with
 |some k=>(k,true)
 |none=>(0,false)
def RT (n:Int):List BC×Int:=if n<1\/64<n then([],1) else(List.replicate n.toNat BA,0)
def IB (l:List BC) (n:Nat):List Nat:=Dj (λi=>(l.getD i BA).used) n
def usedH (l:List BC):List Int:=(IB l l.length).map λk:Nat=>(k:Int)
theorem sB{α:Type}{p:α->Bool}{l:List α}(b:k<l.length)(c:p l[k]=true)(d:∀j,(hj:j<k)->p (l[j]'(by omega))=false):l.findIdx? p=some k:=by simp_all[JB]
theorem nZ{α:Type}{p:α->Bool}{l:List α}(h:∀j,(b:j<l.length)->p l[j]=false):l.findIdx? p=none:=by
 rw[Ve];intro x c;have d:=QI.1 c;obtain⟨j,b,rfl⟩:=d;exact h j b
theorem zLm{n:Int}:Sp PP 94 #[.int .i64 n] w λv w'=>(∃b,v=.tuple #[b,.int .i64 (RT n).2]/\AD w.heap.size 183 w' b (RT n).1)/\AC w w':=by
 refine eN ?_;unfold RT;refine ite (λc=>?_) (λc=>?_)
 ·rw[if_pos (.inl c)];exact⟨⟨_,rfl,AD.nil _ _ _⟩,stp⟩
 refine ite (λd=>?_) (λd=>?_)
 ·rw[if_pos (.inr d)];exact⟨⟨_,rfl,AD.nil _ _ _⟩,stp⟩
 rw[if_neg (by omega)];have e:=QU (show(0:Int)<=n by omega);obtain⟨k,rfl⟩:=e;rw[QW];refine Id BA rfl rfl (by omega) λg w1 f h _=>?_;exact⟨⟨_,rfl,f⟩,stp⟩
def plc (l:List Ay) (id:Int):Option Nat:=l.findIdx? (λr=>decide (r.id=id))
theorem xF{l:List Ay}{id:Int}(h:∀r∈l,r.id≠id):plc l id=none:=by simp_all[plc]
theorem zPb{l:List Ay}{id:Int}(b:k<l.length)(c:l[k].id=id)(d:∀j,(hj:j<k)->(l[j]'(by omega)).id≠id):plc l id=some k:=by simp_all[plc,JB]
theorem Ua{l:List Ay}{id:Int}(h:plc l id=some k):∃b:k<l.length,l[k].id=id:=by
 unfold plc at h;rw[JB]at h;obtain⟨b,c,_⟩:=h;exact⟨b,by simpa using c⟩
def Wb (o:Option Nat):Value:=match o with
 |some k=>.tuple #[.int .i64 k,.bool true]
 |none=>.tuple #[.int .i64 0,.bool false]
def Ra (l:List Ay) (most:Int) (x:Ay):List Ay×Int:=
 if(plc l x.id).isSome then([],150) else if most<=l.length then([],252) else(l++[x],0)
def Nz (l:List Ay) (id:Int):List Ay×Bool:=match plc l id with
 |some k=>(l.take k++l.drop (k+1),true)
 |none=>(l,false)
theorem zLH{r:Ay}{id:Int}:Sp PP 363 #[.int .i64 id,agg r] w λv w'=>Ao (r.id=id) v/\Bp w w':=by
 refine eN ?_;refine aH λb w1 n=>?_;exact AF ((At.blk n.blk).cell 0 rfl) (ite (λh=>⟨.t h,n.ext⟩) (λh=>⟨.f h,n.ext⟩))
theorem zEl{c:Nat}{l:List Ay}{g:FuncId}{first cap:List Value}{p:Ay->Prop}(h:AQ w (.slice a n c) l)(K:l.length<=1000000)
  (G:∀r w1,r∈l->Bp w w1->Sp PP g (first++[agg r]++cap).toArray w1 λv w2=>Ao (p r) v/\Bp w1 w2):
  Sp PP 364 #[.slice a n c,.func (.func g) first.toArray cap.toArray] w λv w' =>
   ((∃k:Nat,v=.int .i64 k/\∃H:k<l.length,p l[k]/\∀j,(f:j<k)->¬p (l[j]'(by omega)))\/(v=.int .i64 (-1)/\∀r∈l,¬p r))/\Bp w w':=by
 have d:=h.len;obtain rfl:=d;refine eN ?_;refine GV Aa 6 [4,5,7] 8 (λi w'=>∃k:Nat,k<=l.length/\i=.int .i64 k/\(∀j,(f:j<k)->(C:j<l.length)->¬p l[j])/\Bp w w') (λi _=>l.length - (Go.RowKit.intOf i).toNat) rfl ⟨0,by omega,rfl,by omega,Fr.refl _ _⟩ ?_;rintro i g w' ⟨k,H,rfl,hb,e⟩;refine ite (λAY=>?_) (λI=>?_)
 ·have y:k<l.length:=by omega
  refine Bv (h.ext e) (x:=l[k]) (by simp) λb o A=>Ai A rfl (AA (G l[k] w' (by simp) e) ?_);rintro v w2 ⟨⟨rfl,z⟩|⟨rfl,z⟩,E⟩
  ·exact⟨.inl ⟨k,rfl,y,z,λj f=>hb j f (by omega)⟩,e.t E⟩
  ·refine rA ⟨⟨k+1,by omega,rfl,λj f C=>?_,e.t E⟩,?_⟩
   ·have d:=QH j k;rcases d with F|F
    ·exact hb j F C
    ·have d:j=k:=by omega
     obtain rfl:=d;exact z
   ·show _ - (k+1)<_ - k;omega
 ·refine⟨.inr ⟨rfl,λr J=>?_⟩,e⟩;have d:=QI.1 J;obtain⟨j,f,rfl⟩:=d;exact hb j (by omega) f
theorem qJ{c:Nat}{l:List Ay}{id:Int}(h:AQ w (.slice a n c) l)(d:l.length<=1000000):
  Sp PP 316 #[.slice a n c,.int .i64 id] w λv w'=>v=Wb (plc l id)/\Bp w w':=by
 have f:=h.len;obtain rfl:=f;refine eN ?_;refine AA (zEl (g:=363) (first:=[.int .i64 id]) (cap:=[]) (p:=λr=>r.id=id) h d λr w1 _ _=>zLH) ?_;rintro v w' ⟨⟨k,rfl,o,b,t⟩|⟨rfl,b⟩,e⟩
 ·refine Yv (iT (Int.natCast_nonneg k) ?_);rw[zPb o b t,Int.max_eq_left (by omega)];exact⟨rfl,e⟩
 ·refine Yv (iF (by decide) ?_);rw[xF b];exact⟨rfl,e⟩
theorem aV{b:OA}{d e nb f:Nat}{la lb:List Ay}(h:AQ w (.slice a d e) la)(hb:AQ w (.slice b nb f) lb)(A:la.length<=1000000/\lb.length<=1000000):
  Sp PP 229 #[.slice a d e,.slice b nb f] w λv w'=>AD w.heap.size 103 w' v (la++lb)/\Bp w w':=by
 have c:=h.len;obtain rfl:=c;have c:=hb.len;obtain rfl:=c;refine eN ?_;refine rA (YV (n:=la.length+lb.length) (B:=w.heap.size) HD rfl rfl (Qe _) (by omega) λg w1 x l C=>dE (u:=w) (lo:=0) rfl x (h.ext l) (.inr ⟨g,rfl,by simp⟩) (by simp) (by omega) λw2 o y _ _=>?_);have p:=Fr.st l y λi hi=>hi.1;refine TC (P:=PP) (t:=155) (n:=la.length+lb.length) (some la.length) none o (by simp) (by simp) λE F hd=>?_;refine dE (u:=w) (lo:=la.length) rfl o (hb.ext p) hd (by simp) (by simp) λG r z _ _=>?_;refine⟨?_,Fr.st p z λi hi=>hi.1⟩
 have:List.take la.length (List.take 0 (List.replicate (la.length+lb.length) HD)++la++List.drop (0+la.length) (List.replicate (la.length+lb.length) HD))++lb ++
   List.drop (la.length+lb.length) (List.take 0 (List.replicate (la.length+lb.length) HD)++la++List.drop (0+la.length) (List.replicate (la.length+lb.length) HD))=la++lb:=by
  simp
 rw[this]at r;exact r
theorem nG(l:List Ay)(id:Int):(plc l id=none/\Wb (plc l id)=.tuple #[.int .i64 0,.bool false])\/∃k,plc l id=some k/\Wb (plc l id)=.tuple #[.int .i64 (k:Nat),.bool true]:=by
 cases h:plc l id with
 |none=>exact .inl ⟨rfl,rfl⟩
 |some k=>exact .inr ⟨k,rfl,rfl⟩
theorem zMb{c:Nat}{l:List Ay}{most:Int}{x:Ay}(h:AQ w (.slice a n c) l)(H:l.length<=100000):
  Sp PP 226 #[.slice a n c,.int .i64 most,agg x] w λv w'=>(∃r,v=.tuple #[r,.int .i64 (Ra l most x).2]/\AD w.heap.size 103 w' r (Ra l most x).1)/\Bp w w':=by
 have f:=h.len;obtain rfl:=f;refine eN ?_;refine aH λb w1 n1=>?_;have y:At w1 b 0 (enc x):=At.blk n1.blk;refine AF (y.cell 0 rfl) (AA (qJ (h.ext n1.ext) (by omega)) ?_);rintro v w2 ⟨rfl,z⟩;have d:=n1.ext.t z;unfold Ra;have f:=nG l x.id;rcases f with⟨A,C⟩|⟨k,A,C⟩<;>rw[C,A]
 ·refine ite (λo=>?_) (λo=>?_)
  ·simp only[Option.isSome_none,Jt,if_false,o,if_true];exact⟨⟨_,rfl,AD.nil _ _ _⟩,d⟩
  ·simp only[Option.isSome_none,Jt,if_false,o];refine Ai (y.ext z) rfl (bS x λI J p _ E=>AA (aV (lb:=[x]) (h.ext (d.t p.e)) E ⟨by omega,by simp⟩) ?_);rintro K L ⟨F,G⟩;exact⟨⟨_,rfl,F.mono (d.t p.e).size⟩,(d.t p.e).t G⟩
 ·simp only[Option.isSome_some,if_true];exact⟨⟨_,rfl,AD.nil _ _ _⟩,d⟩
def IW (l:List Ay):Ay×List Ay×Bool:=match l with
 |[]=>(HD,[],false)
 |x::r=>(x,r,true)
theorem zOw{α:Type}(l:List α):(l.drop 1).take (l.length - 1)=l.tail:=by
 rw[Qj (by simp),List.drop_one]
theorem zLF{c:Nat}{l:List Ay}(h:AQ w (.slice a n c) l)(K:l.length<=100000):
  Sp PP 167 #[.slice a n c] w λv w'=>(∃H,v=.tuple #[agg (IW l).1,H,.bool (IW l).2.2]/\AD w.heap.size 103 w' H (IW l).2.1)/\Bp w w':=by
 have d:=h.len;obtain rfl:=d;refine eN ?_;refine Wi λb w1 n1=>?_;refine ite (λh0=>?_) (λh0=>?_)
 ·have d:l=[]:=Qn (by omega);obtain rfl:=d;refine AJ (cs:=enc HD) rfl (YF n1.blk (vs:=enc HD) rfl rfl (by decide) (AK.one _) λw2 I L _=>?_);refine Rm (cs:=enc HD) (At.blk I) rfl ?_;exact⟨⟨_,rfl,AD.nil _ _ _⟩,Fr.st n1.ext L λi hi=>by rw[hi];exact n1.lo⟩
 ·obtain⟨x,r,rfl⟩:∃x r,l=x::r:=by cases l;exact absurd rfl h0;exact⟨_,_,rfl⟩
  refine dD (λi=>i=b) (Hn 9 0) λw2 p=>?_;have f:=n1.ext.t p.e;refine CL (i:=0) (h.ext f) (x:=x) rfl λbb o A y=>?_
  have z:bb≠b:=by
   have d:=h.lt (by simp);obtain⟨T,J,I⟩:=d;rw[y]at J;cases J;have:=n1.lo;omega
  refine Ch A rfl z (Wv (some 1) none (h.ext f) (by simp) (by simp) λM N C=>?_)
  have C:AQ w2 (.slice M ((x::r).length - 1) N) r:=by
   have:=C;simp only[JQ,QP]at this;rw[zOw]at this;exact this
  refine AA (aV (la:=[]) (lb:=r) (AQ.nil w2) C ⟨by simp,by simp at K;omega⟩) ?_;rintro O U ⟨Q,E⟩;refine⟨Fr.fr E,?_⟩;have F:=(p.e.t E).blk n1.blk;refine YF F (vs:=enc x) rfl rfl (Qe 8) (AK.one _) λV S G _=>⟨G,?_⟩;refine Rm (cs:=enc x) (At.blk S) rfl ?_;refine⟨⟨O,rfl,?_⟩,Fr.st (f.t E) G λi hi=>by rw[hi];exact n1.lo⟩;refine AD.mono (AD.fr (show AD _ _ _ _ r by simpa using Q) G λi hi W hd=>?_) f.size;have:=Ad (p.e.blk n1.blk);omega
theorem zOa{α:Type}(l:List α)(k:Nat):(l.drop 0).take (k - 0)=l.take k:=by simp
theorem zN9{α:Type}(l:List α)(k:Nat):(l.drop k).take (l.length - k)=l.drop k:=by rw[Qj (by simp)]
theorem zG{c:Nat}{l:List Ay}{id:Int}(h:AQ w (.slice a n c) l)(H:l.length<=100000):
  Sp PP 227 #[.slice a n c,.int .i64 id] w λv w'=>(∃r,v=.tuple #[r,.bool (Nz l id).2]/\AD w.heap.size 103 w' r (Nz l id).1)/\Bp w w':=by
 have b:=h.len;obtain rfl:=b;refine eN ?_;refine AA (qJ h (by omega)) ?_;rintro v w1 ⟨rfl,d⟩;unfold Nz;have b:=nG l id;rcases b with⟨o,x⟩|⟨k,o,x⟩<;>rw[x,o]
 ·refine AA (aV (lb:=[]) (h.ext d) (AQ.nil w1) ⟨by omega,by simp⟩) ?_;rintro C w2 ⟨E,p⟩;exact⟨⟨C,rfl,by simpa using E.mono d.size⟩,d.t p⟩
 ·have b:=Ua o;obtain⟨I,_⟩:=b;refine dQ 10 λw2 p=>?_;have f:=d.t p.e;refine Wv none (some k) (h.ext f) (by simp) (by simp;omega) λJ K y=>?_;refine rA (Wv (some (k+1)) none (h.ext f) (by simp;omega) (by simp) λa2 c2 z=>?_);simp only[JQ,QP,zOa,zN9]at y z;refine AA (aV y z ⟨by simp;omega,by simp;omega⟩) ?_;rintro F L ⟨G,A⟩;exact⟨A,⟨F,rfl,G.mono f.size⟩,f.t A⟩
theorem nI{c:Nat}{l:List BC}(h:AQ w (.slice a n c) l)(o:l.length<=100000):
  Sp PP 231 #[.slice a n c] w λv w'=>AD w.heap.size 183 w' v l/\AC w w':=by
 have e:=h.len;obtain rfl:=e;refine eN ?_;refine LC (λh0=>?_) (λh0=>?_)
 ·obtain⟨p,r,f,t,x⟩:=h;cases f;have:l=[]:=by simp_all
  subst this;exact⟨AD.nil _ _ _,stp⟩
 ·refine LE (n:=0) (vs:=[]) ([]:List BC) rfl rfl rfl (by omega) λb w1 n1 y=>NI (u:=w) ⟨rfl,rfl⟩ (AD.nil' w.heap.size 183 w1 _) h.up (by simp;omega) λz A d C E=>?_;rw[Je]at d;exact⟨d,stp⟩
theorem zQf{h:BC}:Sp PP 230 #[agg h] w λv w'=>Ao (h.used=false) v/\AC w w':=by
 refine eN ?_;refine BM λb w1 n1 c=>Cx rfl ?_;cases d:h.used
 ·exact⟨.t rfl,stp⟩
 ·exact⟨.f (by simp),stp⟩
theorem wL{h:BC}:Sp PP 172 #[agg h] w λv w'=>Ao (h.used=true) v/\AC w w':=by
 refine eN ?_;refine BM λb w1 n1 c=>Cx rfl ?_;cases d:h.used
 ·exact⟨.f (by simp),stp⟩
 ·exact⟨.t rfl,stp⟩
structure MN (l:List BC) (a:OA) (c:Nat) (g:FuncId) (bl bs:Nat) (u:World):Prop where
 sl:AQ u (.slice a l.length c) l
 l:Bk u bl [.slice a l.length c] 149
 s:u.cell? ⟨bs,0,none⟩=some (.func (.func g) #[] #[])
def Ig (p:BC->Bool) (l:List BC):List (List Value):=(Dj (λi=>p (l.getD i BA)) l.length).map λk:Nat=>[.int .i64 k]
theorem eZ{l:List BC}{c:Nat}{g:FuncId}{bl bs:Nat}(S:l.length<=100000)(p:BC->Bool)
  (E:∀h w,Sp PP g #[agg h] w λv w'=>Ao (p h=true) v/\AC w w'):
  Kv PP 234 [] [.pointer (some ⟨bl,0,none⟩),.pointer (some ⟨bs,0,none⟩)] (MN l a c g bl bs) (Ig p l):=by
 refine⟨λy J T w z F A H h0=>?_⟩;refine eN ?_;refine AF ((A 0 w h0).l.at.cell0 rfl) (cN 8 [4,5] 8 l.length (λk u=>J (Dj (λi=>p (l.getD i BA)) k).length u) h0 ?_);intro k G u U f;have hd:=A _ u f;refine ite (λAY=>?_) (λI=>?_)
 ·have d:k<l.length:=by omega
  have C:=mL (λi=>p (l.getD i BA)) k;refine Bv hd.sl (x:=l[k]) (by simp) λV W K=>Ai K rfl (Ap λX L n3 Y=>DI (vs:=enc l[k]) rfl rfl rfl (AK.one _) λr Z M _=>?_);have s4:Gl u L r:=M.one n3.lo;refine AF (by have:=Bp.cell (lE u r) hd.s;exact this) (Cq rfl rfl ?_);refine AA (E l[k] r) ?_;rintro v t ⟨⟨rfl,N⟩|⟨rfl,N⟩,e5⟩
  ·have o:p (l.getD k BA)=true:=by simp_all
   have O:(Ig p l)[(Dj (λi=>p (l.getD i BA)) k).length]? = some [.int .i64 (k:Nat)]:=by
    unfold Ig;rw[QK,UD (q:=λi=>p (l.getD i BA)) d o];rfl
   refine IR rfl rfl rfl rfl (H _ t _ O (z _ _ _ f (lE u t))) ?_;rintro b u' (⟨rfl,e⟩|⟨rfl,e⟩)
   ·refine rA ⟨rfl,d,?_⟩;rw[C,if_pos o];simpa using e
   ·exact .inr e
  ·have o:¬p (l.getD k BA)=true:=by simp_all
   refine rA ⟨rfl,d,?_⟩;rw[C,if_neg o];exact z _ _ _ f (lE u t)
 ·have Q:k=l.length:=by omega
  obtain rfl:=Q;refine .inl ?_;unfold Ig;rw[Qr];exact f
theorem fB{c:Nat}{l:List BC}{g:FuncId}(h:AQ w (.slice a n c) l):
  Sp PP 171 #[.slice a n c,.func (.func g) #[] #[]] w λv w'=>(∃bl bs,v=.func (.func 234) #[] #[.pointer (some ⟨bl,0,none⟩),.pointer (some ⟨bs,0,none⟩)]/\MN l a c g bl bs w')/\AC w w':=by
 have b:=h.len;obtain rfl:=b;refine eN ?_;refine BM λd w1 n1 e=>BM λf w2 n2 o=>?_;exact⟨⟨d,f,rfl,h.up,e.mv,o.at.cell0 rfl⟩,stp⟩
theorem MN.up{l:List BC}{c:Nat}{g:FuncId}{bl bs:Nat}(h:MN l a c g bl bs u)[L:Le u u']:MN l a c g bl bs u':=⟨h.sl.up,h.l.mv,Bp.cell L.e h.s⟩
theorem wH{p:BC->Bool}{l:List BC}:∀x∈Ig p l,x.length=1:=by simp[Ig]
theorem iJ{p:BC->Bool}{l:List BC}(h:(Dj (λi=>p (l.getD i BA)) l.length)[0]? = some k):∃b:k<l.length,p l[k]=true/\l.findIdx? p=some k:=by
 have o:=Jy h;have r:=cU.1 o;obtain⟨b,c⟩:=r;rw[Ph b]at c;refine⟨b,c,sB b c λj t=>?_⟩
 cases v:p (l[j]'(by omega)) with
 |false=>rfl
 |true =>
  have e:=UD (q:=λi=>p (l.getD i BA)) b (by simp_all);have x:=UD (q:=λi=>p (l.getD i BA)) (n:=k) t (by simp only[Ph (show j<l.length by omega)];exact v);have f:=(Qy.1 x).1;have y:(Dj (λi=>p (l.getD i BA)) l.length)[(Dj (λi=>p (l.getD i BA)) k).length]? = (Dj (λi=>p (l.getD i BA)) l.length)[0]?:=by rw[e,h]
  have d:(Dj (λi=>p (l.getD i BA)) l.length).Nodup:=(Xj).filter _;have AY:=(Qy.1 e).1;have:=(List.getElem?_inj AY d).1 y;omega
theorem zLn{c:Nat}{l:List BC}{x:Ay}(h:AQ w (.slice a n c) l)(hn:l.length<=100000):
  Sp PP 168 #[.slice a n c,agg x] w λv w'=>(∃C,v=.tuple #[.int .i64 (MF l x).1,C,.int .i64 (MF l x).2.2]/\AD w.heap.size 183 w' C (MF l x).2.1)/\AC w w':=by
 have F:=h.len;obtain rfl:=F;refine eN ?_;refine BM λb1 w1 n1 B1=>BM λb2 w2 n2 B2=>Ap λb4 w4 n4 B4=>Ap λb5 w5 n5 B5=>Ap λb6 w6 n6 B6=>Cx rfl ?_;refine AA (fB h.up) ?_;rintro v E ⟨⟨bl,bs,rfl,D7⟩,e7⟩;have C4:=B4.mv (w:=E);have C5:=B5.mv (w:=E);have C6:=B6.mv (w:=E);have a4:=n4.b;have a5:=n4.s;have a6:=n5.b;have a7:=n5.s;have a8:=n6.b;have a9:=n6.s;have z7:=e7.e.size
 refine IS Aa rfl (gf:=234) (first:=[]) (cap:=[.pointer (some ⟨bl,0,none⟩),.pointer (some ⟨bs,0,none⟩)]) rfl rfl
  (eZ (g:=230) (a:=a) (c:=c) (bl:=bl) (bs:=bs) hn (λh=>!h.used) λh w=>by simpa using zQf (h:=h) (w:=w)) wH
  (λi u=>i=0/\AC E u)
  (λj u=>j=.ret/\∃k C,IM l=some k/\Bk u b4 [.int .i64 (k:Nat)] 3/\Bk u b5 [C] 149/\Bk u b6 [.int .i64 0] 24/\AD w.heap.size 183 u C (l.set k ⟨true,x⟩)/\AC w u)
  ?_ ?_ ?_ ⟨rfl,stp⟩ ?_ ?_ ?_
 ·rintro i u u' ⟨hi,s⟩ q;exact⟨hi,s.qt q⟩
 ·rintro j u u' ⟨L,k,C,h1,h2,h3,M,h5,N⟩ q;exact⟨L,k,C,h1,h2.qt q,h3.qt q,M.qt q,h5.qt q,N.qt (q.mono (by have:=lz w E;omega))⟩
 ·rintro i u ⟨_,s⟩;exact D7.up
 ·rintro i y u O ⟨rfl,s⟩;unfold Ig at O;rw[QK,Vo]at O;obtain⟨k,hk,rfl⟩:=O;have F:=iJ (p:=λh=>!h.used) hk;obtain⟨Q,J,T⟩:=F;refine⟨Fr.refl _ _,λu1 q=>?_⟩;have s1:AC E u1:=s.qt q;refine Cx rfl ?_;refine AA (nI h.up hn) ?_;rintro v2 w8 ⟨U,e8⟩;have F:=U.shape;obtain⟨oa,oc,rfl⟩:=F;refine Cq rfl rfl ?_;refine AJ (cs:=enc (⟨true,x⟩:BC)) rfl (Fs rfl U (x:=l[k]) (by simp) λg' hg b0 A=>Kk rfl (⟨true,x⟩:BC) U hg Q rfl λK O9 f9 s9 _=>?_);have z8:=s1.e.size;refine rS C4 [.int .i64 (k:Nat)] (by simp;rfl) λr V d _=>?_;have G:Gl w2 K r:=d.one n4.lo;have G5:=(C5.mv (w:=K)).fr d (by omega);have W:=(C6.mv (w:=K)).fr d (by omega);refine DI (vs:=[_]) rfl rfl rfl (by simp;rfl) λt X f _=>?_;have H:Gl w2 r t:=f.one (by omega);have Y:=V.fr f (by omega);have H6:=W.fr f (by omega);refine DI (vs:=[.int .i64 0]) rfl rfl rfl (by simp;rfl) λz Z o _=>?_;have I:Gl w2 t z:=o.one (by omega);have I4:=Y.fr o (by omega);have I5:=X.fr o (by omega);refine⟨⟨rfl,k,_,T,I4,I5,Z,?_,stp⟩,λi=>w2.heap.size<=i,?_⟩
  ·have P1:=O9.fr d (λb hb hv=>by omega);have P2:=P1.fr f (λb hb hv=>by omega);have P3:=P2.fr o (λb hb hv=>by omega);exact P3.older
  ·have E9:Bp u1 K:=Le.e;exact(((Fr.fr E9).trans G.e).trans H.e).trans I.e
 ·rintro D u ⟨hi,s⟩ hD hd
  have a0:IM l=none:=by
   refine nZ λj L=>?_
   cases hq:!(l[j].used) with
   |false=>rfl
   |true =>
    have:=UD (q:=λi=>!(l.getD i BA).used) L (by simp_all);have h1:=(Qy.1 this).1;have b3:(Dj (λi=>!(l.getD i BA).used) l.length).length=0:=by unfold Ig at hi;rw[Qr]at hi;exact hi
    omega
  have J:MF l x=(0,[],140):=by unfold MF;rw[a0]
  rw[J];have z8:=s.e.size;refine rS C4 [.int .i64 0] (by simp;rfl) λr V d _=>?_;have G:Gl w2 u r:=d.one n4.lo;have G5:=(C5.mv (w:=u)).fr d (by omega);have W:=(C6.mv (w:=u)).fr d (by omega);refine DI (vs:=[.slice none 0 0]) rfl rfl rfl (by simp;rfl) λt X f _=>?_;have H:Gl w2 r t:=f.one (by omega);have Y:=V.fr f (by omega);have H6:=W.fr f (by omega);refine DI (vs:=[.int .i64 140]) rfl rfl rfl (by simp;rfl) λz Z o _=>?_;have I:Gl w2 t z:=o.one (by omega);have I4:=Y.fr o (by omega);have I5:=X.fr o (by omega);have a1:=o.nc _ _ (f.nc _ _ (d.nc _ _ hd rfl) rfl) rfl;refine Fg a1 λu' q=>?_;have J4:=I4.qt (q 0 (by omega));have J5:=I5.qt (q 0 (by omega));have J6:=Z.qt (q 0 (by omega));refine FJ rfl ?_;refine FJ rfl ?_;refine FJ rfl ?_;have S:AC w z:=stp;exact⟨⟨_,rfl,AD.nil _ _ _⟩,S.qt (q _ (by have:=lz w E;omega))⟩
 ·rintro j D u ⟨rfl,k,C,T,M,h5,N,hO,hS⟩ hD hd;have J:MF l x=((k:Int),l.set k ⟨true,x⟩,0):=by unfold MF;rw[T]
  rw[J];refine Fg hd λu' q=>?_;have J4:=M.qt (q 0 (by omega));have J5:=h5.qt (q 0 (by omega));have J6:=N.qt (q 0 (by omega));refine FJ rfl ?_;refine FJ rfl ?_;refine FJ rfl ?_;exact⟨⟨_,rfl,hO.qt (q 0 (by omega))⟩,hS.qt (q _ (by have:=lz w E;omega))⟩
theorem rV{c:Nat}{l:List BC}{id:Int}(h:AQ w (.slice a n c) l)(hn:l.length<=100000):
  Sp PP 225 #[.slice a n c,.int .i64 id] w λv w'=>v=.tuple #[.int .i64 (UA (Fm l id)).1,.bool (UA (Fm l id)).2]/\AC w w':=by
 have A:=h.len;obtain rfl:=A;refine eN ?_;refine BM λb1 w1 n1 B1=>BM λb2 w2 n2 B2=>Ap λb4 w4 n4 B4=>Ap λb5 w5 n5 B5=>Cx rfl ?_;refine AA (fB h.up) ?_;rintro v z ⟨⟨bl,bs,rfl,D7⟩,e7⟩;have T:=B4.mv (w:=z);have U:=B5.mv (w:=z);have a0:=n4.b;have a1:=n4.s;have a4:=n5.b;have a5:=n5.s;have z7:=e7.e.size
 refine IS Aa rfl (gf:=234) (first:=[]) (cap:=[.pointer (some ⟨bl,0,none⟩),.pointer (some ⟨bs,0,none⟩)]) rfl rfl
  (eZ (g:=172) (a:=a) (c:=c) (bl:=bl) (bs:=bs) hn (λh=>h.used) λh w=>wL (h:=h) (w:=w)) wH
  (λi u=>(∀j k,j<i->(IB l l.length)[j]? = some k->¬(l.getD k BA).r.id=id)/\AC z u)
  (λj u=>j=.ret/\∃k:Nat,Fm l id=some k/\Bk u b4 [.int .i64 k] 3/\Bk u b5 [.bool true] 4/\AC w u)
  ?_ ?_ ?_ ⟨by omega,stp⟩ ?_ ?_ ?_
 ·rintro i u u' ⟨hi,s⟩ q;exact⟨hi,s.qt q⟩
 ·rintro j u u' ⟨C,k,E,h2,h3,h6⟩ q;exact⟨C,k,E,h2.qt q,h3.qt q,h6.qt (q.mono (by have:=lz w z;omega))⟩
 ·rintro i u ⟨_,s⟩;exact D7.up
 ·rintro i y u K ⟨hb,s⟩;unfold Ig at K;rw[QK,Vo]at K;obtain⟨k,V,rfl⟩:=K;have A:=zQI V;obtain⟨F,W,hi⟩:=A;simp only[Ph F]at W;refine⟨Fr.refl _ _,λX q=>?_⟩;have s1:AC z X:=s.qt q;refine Nw TW mixed (λ_=>False) (Hn 8 0) (by kernel_rfl) λL Y _=>Nf rfl (λh=>h) ?_;refine CL h.up (x:=l[k]) (by simp) λb8 o8 A8 _=>AP (A8.cell 1 rfl) (λh=>h) (Nf rfl (λh=>h) ?_);refine ite (λhe=>?_) (λM=>?_)
  ·have N:Fm l id=some k:=sB F (by simp[W,he]) λj C=>by
    cases G:(l[j]'(by omega)).used with
    |false=>rfl
    |true =>
     have J:(λi=>(l.getD i BA).used) j=true:=by show(l.getD j BA).used=true;rw[Ph (show j<l.length by omega)];exact G
     have E:=hb (Dj (λi=>(l.getD i BA).used) j).length j (by rw[hi];exact zQJ C J) (UD (n:=l.length) (by omega) J);rw[Ph (show j<l.length by omega)]at E;simp[E]
   have s2:AC z L:=stp;refine rS T [.int .i64 (k:Nat)] (by simp;rfl) λo O d _=>?_;have H:Gl w2 L o:=d.one n4.lo;have G5:=(U.mv (w:=L)).fr d (by omega);refine DI (vs:=[.bool true]) rfl rfl rfl (by simp;rfl) λp H5 f _=>?_;have I:Gl w2 o p:=f.one (by omega);exact⟨⟨rfl,k,N,O.fr f (by omega),H5,stp⟩,_,((Fr.fr Y.e).trans (H.e.trans I.e):Fr (λi=>w2.heap.size<=i) X p)⟩
  ·refine⟨⟨λj k' C t=>?_,stp⟩,λ_=>False,Y.e⟩;have A:=QH j i;rcases A with Z|Z
   ·exact hb j k' Z t
   ·have A:j=i:=by omega
    obtain rfl:=A;unfold IB at t;rw[V]at t;cases t;rw[Ph F];exact M
 ·rintro D u ⟨hi,s⟩ hD hd
  have Q:Fm l id=none:=by
   refine nZ λj C=>?_
   cases G:l[j].used with
   |false=>rfl
   |true =>
    have J:(λi=>(l.getD i BA).used) j=true:=by simp_all
    have h0:=UD (q:=λi=>(l.getD i BA).used) (n:=l.length) C J;have E:=hi _ j (by unfold Ig;rw[Qr];exact(Qy.1 h0).1) h0;rw[Ph C]at E;simp[E]
  rw[Q];refine rS T [.int .i64 0] (by simp;rfl) λo O d _=>?_;have H:Gl w2 u o:=d.one n4.lo;have G5:=(U.mv (w:=u)).fr d (by omega);refine DI (vs:=[.bool false]) rfl rfl rfl (by simp;rfl) λp c5 f _=>?_;have I:Gl w2 o p:=f.one (by omega);have c4:=O.fr f (by omega);have su:AC w p:=stp;have S:=f.nc _ _ (d.nc _ _ hd rfl) rfl;refine Fg S λu' q=>?_;have J4:=c4.qt (q 0 (by omega));have J5:=c5.qt (q 0 (by omega));refine FJ rfl ?_;refine FJ rfl ?_;exact⟨rfl,su.qt (q _ (by have:=lz w z;omega))⟩
 ·rintro j D u ⟨rfl,k,N,h4,h5,hS⟩ hD hd;rw[N];refine Fg hd λu' q=>?_;have J4:=h4.qt (q 0 (by omega));have J5:=h5.qt (q 0 (by omega));refine FJ rfl ?_;refine FJ rfl ?_;exact⟨rfl,hS.qt (q _ (by have:=lz w z;omega))⟩
theorem zGQ{g:FuncId}{first cap:List Value}{d:World->Prop}{xs:List Int}(f:Kv PP g first cap d (xs.map λx=>[.int .i64 x]))(z:∀u,Bp w u->d u)(Y:xs.length<=1000000):
  Sp PP 233 #[.slice none 0 0,.func (.func g) first.toArray cap.toArray] w λv w'=>AD w.heap.size 3 w' v xs/\AC w w':=by
 refine eN ?_;refine BM λA w1 n1 C=>?_;have E:=n1.b;have F:=n1.s
 refine IS Aa rfl (gf:=g) (first:=first) (cap:=cap) rfl rfl f (by simp)
  (λi u=>∃v,Bk u A [v] 63/\AD w.heap.size 3 u v (xs.take i)/\AC w u) (λ_ _=>False) ?_ ?_ ?_ ⟨.slice none 0 0,C,by rw[Xa];exact AD.nil _ _ _,stp⟩ ?_ ?_ ?_
 ·rintro i u u' ⟨v,G,H,I⟩ q;exact⟨v,G.qt q,H.qt q,I.qt (q.mono (by omega))⟩
 ·rintro c u u' h;exact h.elim
 ·rintro i u ⟨v,_,_,s⟩;exact z u s.e
 ·rintro i y u l ⟨v,o,O,s⟩;rw[QK,Vo]at l;obtain⟨x,l,rfl⟩:=l;have J:=Qy.1 l;obtain⟨hi,rfl⟩:=J;refine⟨Fr.refl _ _,λZ q=>?_⟩;have o:=o.qt q;have O:=O.qt q;have s:=s.qt (q.mono (by omega));refine Cx rfl ?_;refine HS xs[i] rfl rfl (by decide) λb4 K L _ M=>Ax (u:=w) ⟨rfl,rfl⟩ O.up M (by simp;omega) λr N p Q S=>?_;have T:=(o.mv (w:=K)).fro O.up Q;refine DI (vs:=[r]) ?_ rfl rfl (by obtain⟨oa,oc,rfl⟩:=p.shape;simp;rfl) λU V t _=>?_
  ·obtain⟨oa,oc,rfl⟩:=p.shape;rfl
  have W:Gl w N U:=t.one (by omega);refine⟨⟨r,V,?_,stp⟩,λi=>w.heap.size<=i,((Fr.fr L.e).trans S.e).trans W.e⟩;rw[Cs hi];exact p.frc t T
 ·rintro D u ⟨v,o,O,s⟩ X hd;refine Cx rfl ?_;refine Fg hd λu' q=>?_;rw[Qj (by simp)]at O;exact⟨O.qt (q 0 (by omega)),s.qt (q _ (by omega))⟩
 ·rintro c D u h;exact h.elim
theorem zIg{g:FuncId}{first cap:List Value}{b:World->Prop}{xs:List Int}(c:Kv PP g first cap b (xs.map λx=>[.int .i64 x]))(d:∀u,Bp w u->b u)(e:xs.length<=1000000):
  Sp PP 170 #[.func (.func g) first.toArray cap.toArray] w λv w'=>AD w.heap.size 3 w' v xs/\AC w w':=by
 refine eN ?_;refine AA (zGQ c d e) ?_;rintro v w1 ⟨f,h⟩;exact⟨f,stp⟩
theorem mN{c:Nat}{l:List BC}(h:AQ w (.slice a n c) l)(d:l.length<=100000):
  Sp PP 107 #[.slice a n c] w λv w'=>AD w.heap.size 3 w' v (usedH l)/\AC w w':=by
 have e:=h.len;obtain rfl:=e;refine eN ?_;refine AA (fB h) ?_;rintro v w1 ⟨⟨bl,bs,rfl,f⟩,t⟩;have b:=eZ (g:=172) (a:=a) (c:=c) (bl:=bl) (bs:=bs) d (λh=>h.used) λh w=>wL (h:=h) (w:=w);have o:Ig (λh=>h.used) l=(usedH l).map λx=>[.int .i64 x]:=by unfold Ig usedH IB;rw[VM];rfl
 rw[o]at b;refine AA (zIg (first:=[]) b (λu p=>by have:=AC.mk p;exact f.up) (by unfold usedH IB;rw[Qr];have:=bL (λi=>(l.getD i BA).used) l.length;omega)) ?_;rintro v w2 ⟨r,y⟩;exact⟨r.older,stp⟩
theorem zJV{c:Nat}{l:List BC}{i:Int}(h:AQ w (.slice a n c) l)(r:l.length<=100000):
  Sp PP 177 #[.slice a n c,.int .i64 i] w λv w'=>(∃f,v=.tuple #[f,.int .i64 (MZ l i).2]/\AD w.heap.size 183 w' f (MZ l i).1)/\AC w w':=by
 have b:=h.len;obtain rfl:=b;refine eN ?_;unfold MZ;refine ite (λd=>?_) (λd=>?_)
 ·rw[if_pos (.inl d)];exact⟨⟨_,rfl,AD.nil _ _ _⟩,stp⟩
 refine ite (λo=>?_) (λo=>?_)
 ·rw[if_pos (.inr o)];exact⟨⟨_,rfl,AD.nil _ _ _⟩,stp⟩
 rw[if_neg (by omega)];have b:=QU (Int.not_lt.1 d);obtain⟨k,rfl⟩:=b;have p:k<l.length:=by omega
 rw[QW,Ph p];refine Bv h (x:=l[k]) (by simp) λC E t=>AF (t.cell0 rfl) ?_;cases F:l[k].used
 ·rw[if_neg (by simp)];exact⟨⟨_,rfl,AD.nil _ _ _⟩,stp⟩
 ·rw[if_pos rfl];refine AA (nI h r) ?_;rintro v w2 ⟨e,G⟩;have b:=e.shape;obtain⟨oa,oc,rfl⟩:=b;refine AJ (cs:=enc BA) rfl (Fs rfl e (x:=l[k]) (by simp) λH y _ A=>Kk rfl BA e y p rfl λI z J K _=>?_);exact⟨⟨_,rfl,z.older⟩,stp⟩
def Fz (M R:Nat->Prop) (w:World) (Φ:World->Prop):Prop:=∀w',Fr (λi=>M i\/¬R i) w w'->Φ w'
theorem Fr.join{E H:Nat->Prop}{a b c:World}(f:Fr D a b)(k:Fr E b c)(l:∀i,i<a.heap.size->D i->H i)(p:∀i,i<a.heap.size->E i->H i):Fr H a c:=
 ⟨k.os.trans f.os,k.tape.trans f.tape,k.output.trans f.output,Qw f.size k.size,λi hi e=>(k.block i (QJ hi f.size) λd=>e (p i hi d)).trans (f.block i hi λd=>e (l i hi d)),λi o hi h=>k.nc i o (f.nc i o hi h) h⟩
section
variable {M M' R R':Nat->Prop} {w w':World} {Φ Ψ:World->Prop}
theorem Fz.at(h:Fz M R w Φ)[L:Le w w']:Φ w':=h w' (Fr.fr L.e)
theorem Fz.here(h:Fz M R w Φ):Φ w:=h w (Fr.refl _ _)
theorem Fz.step(h:Fz M R w Φ)(f:Fr M w w')(c:∀i,i<w.heap.size->M' i->M i)(d:∀i,i<w.heap.size->R i->R' i):Fz M' R' w' Φ:=λ_ k =>
 h _ (f.join k (λ_ _ hi=>.inl hi) λi hi e=>e.elim (λb=>.inl (c i hi b)) λb=>.inr λl=>b (d i hi l))
theorem Fz.away(h:Fz M R w Φ)(f:Fr D w w')(b:∀i,D i->¬R i):Fz M R w' Φ:=λ_ k =>
 h _ (f.join k (λi _ hi=>.inr (b i hi)) λ_ _ c=>c)
theorem Fz.and(h:Fz M R w Φ)(k:Fz M R w Ψ):Fz M R w λu=>Φ u/\Ψ u:=λu f=>⟨h u f,k u f⟩
theorem Fz.imp(h:Fz M R w Φ)(k:∀u,Φ u->Ψ u):Fz M R w Ψ:=λu f=>k u (h u f)
theorem eI{α:Type}[AK α]{t e:TypeId}{z:Value}{d:Nat}[r:DQ P t e][v:AX P e z (AK.sz α) d]{k:Value->Prop}{c:Nat}{l:List α}{x:α}(h:∀w',Fr D w w'->AQ w' (.slice a n c) l)(hi:l[i]? = some x)
  (y:∀b o,(∀w',Fr D w w'->At w' b o (enc x))->k (.pointer (some ⟨b,o,none⟩))):Ar P (Instr.indexAt t (.slice a n c) (.int .i64 i)) D k w:=by
 have p:=(h w (Fr.refl _ _)).at hi;obtain⟨rfl,b,o,rfl,_⟩:=p;have E:i<l.length:=(Qy.1 hi).1;rw[Iv];refine⟨_,λw' _=>YO r v (by omega) (by omega) w',y _ _ λw' f=>?_⟩;have p:=(h w' f).at hi;obtain⟨_,F,o',A,C⟩:=p;cases A;exact C
theorem TG{t:TypeId}[d:One P t]{k:Value->Prop}{b o:Nat}{v:Value}(h:∀w',Fr D w w'->At w' b o [v])(e:k v):Ar P (Instr.loadAt t (.pointer (some ⟨b,o,none⟩))) D k w:=by
 rw[Iv];exact⟨v,λw' c=>by simp[Instr.loadAt,Instr.sureAddr,Zy d ((h w' c).cell0 rfl)],e⟩
theorem AD.fz{α:Type}[AK α]{e:TypeId}{v:Value}{l:List α}(O:AD B e w v l)(h:∀i,B<=i->i<w.heap.size->R i/\¬M i):Fz M R w λu=>AQ u v l:=λu f=>by
 by_cases o:l=[]
 ·subst o;have d:=O.shape;obtain⟨a,c,rfl⟩:=d;exact AQ.nil' u a c
 ·refine O.sl.fr f λb hb hd=>?_;have d:=O.lt o;obtain⟨g,p,t,x⟩:=d;rw[hb]at p;cases p;have r:=h b t x;exact hd.elim r.2 λh5=>h5 r.1
end
theorem AD.fzB{M:Nat->Prop}{α:Type}[AK α]{e:TypeId}{v:Value}{l:List α}(O:AD B e u v l)(t:AQ w v l)(h:∀i,B<=i->i<u.heap.size->R i/\¬M i):Fz M R w λu=>AQ u v l:=λu' f=>by
 by_cases o:l=[]
 ·subst o;have d:=O.shape;obtain⟨a,c,rfl⟩:=d;exact AQ.nil' u' a c
 ·refine t.fr f λb hb hd=>?_;have d:=O.lt o;obtain⟨g,p,x,y⟩:=d;rw[hb]at p;cases p;have r:=h b x y;exact hd.elim r.2 λh5=>h5 r.1
structure NV where
 workers:Int
 slots:Int
 queue:Int
 pool:Int
 budget:Int
instance:AK NV:=⟨5,λx=>[.int .i64 x.workers,.int .i64 x.slots,.int .i64 x.queue,.int .i64 x.pool,.int .i64 x.budget],λ_=>rfl,by intro x u hu;simp at hu;rcases hu with rfl|rfl|rfl|rfl|rfl<;>rfl,by decide⟩
structure FK where
 mails:SV
 steps:Int
instance:AK FK:=⟨2,λx=>[.slice x.mails.a x.mails.n x.mails.c,.int .i64 x.steps],λ_=>rfl,by intro x u hu;simp at hu;rcases hu with rfl|rfl<;>rfl,by decide⟩
def Ov:FK:=⟨⟨none,0,0⟩,0⟩
structure KJ where
 b:Nat
instance:AK KJ:=⟨1,λx=>[.pointer (some ⟨x.b,0,none⟩)],λ_=>rfl,by intro x u hu;simp at hu;subst hu;rfl,by decide⟩
structure He where
 bj:Nat
 jc:Nat
 xr:CP
 r:List BP
 ws:SV
 wl:List ByteArray
 ps:List MM
 wk:SV
 sb:Nat->Nat
 sg:Nat->Nat
abbrev Io (c : DN) (K : He) (wt hd : SV) : List Value :=
  [.int .i64 (c.workers : Nat), .int .i64 (c.slots : Nat), .int .i64 (c.queue : Nat), .int .i64 (c.pool : Nat), .int .i64 (c.budget : Nat),
   .slice K.xr.off.a K.xr.off.n K.xr.off.c, .slice K.xr.to.a K.xr.to.n K.xr.to.c, .slice K.xr.rof.a K.xr.rof.n K.xr.rof.c, .slice K.xr.rev.a K.xr.rev.n K.xr.rev.c,
   .slice K.ws.a K.ws.n K.ws.c, .slice wt.a wt.n wt.c, .slice hd.a hd.n hd.c, .slice (some ⟨K.bj, 0, none⟩) c.slots K.jc, .slice K.wk.a K.wk.n K.wk.c]
def Db (kx:Nat) (w:World) (g:An) (x:BC) (j:FK) (o:Option (Bt×Nat)) (k:Nat):Prop:=match o with
 |none=>x.used=false
 |some (d,i)=>x.used=true/\MV w x.r d/\(k≠kx->AQ w j.mails.v (Cf g d.q k i)/\j.steps=i)
structure GE (kx:Nat) (g:An) (c:DN) (K:He) (wt hd:SV) (lw:List Ay) (lh:List BC) (lj:List FK) (s:ES) (w:World):Prop where
 rows:IF w K.xr g K.r
 pos:KE w g K.wl K.ps
 words:AQ w (.slice K.ws.a K.ws.n K.ws.c) K.ps
 wk:AQ w (.slice K.wk.a K.wk.n K.wk.c) ((List.range c.workers).map λk=>(⟨K.sb k⟩:KJ))
 fw:AQ w (.slice wt.a wt.n wt.c) lw
 fh:AQ w (.slice hd.a hd.n hd.c) lh
 lwn:lw.length=s.wait.length
 waits:∀i (h:i<lw.length) (h':i<s.wait.length),MV w lw[i] s.wait[i]
 lhn:lh.length=s.held.length
 ljn:lj.length=s.held.length
 helds:∀k (h:k<lh.length) (h':k<lj.length),Db kx w g lh[k] lj[k] (s.held.getD k none) k
def Cr (bs bj W:Nat) (RW:Nat->Nat->Prop):Nat->Prop:=λi=>i=bs\/i=bj\/∃k,k<W/\RW k i
structure EI (B:Nat) (w:World) (W:Nat) (K:He) (pool:Nat) (RW:Nat->Nat->Prop) (Ls:Nat->List AN):Prop where
 dis:∀k j,k<W->j<W->k≠j->∀i,RW k i->¬RW j i
 sto:∀k,k<W->Ci (RW k) B w (K.sb k) (K.sg k) pool (Ls k)
 lt:∀k,k<W->∀i,RW k i->i<w.heap.size
def GK (RW:Nat->Nat->Prop) (k:Nat) (X:Nat->Prop):Nat->Nat->Prop:=λj=>if j=k then X else RW j
def Ev (W:Nat) (RW RW':Nat->Nat->Prop) (n:Nat):Prop:=∀k,k<W->∀i,RW' k i->RW k i\/n<=i
section
variable {B:Nat} {w w':World} {W:Nat} {K:He} {pool:Nat} {RW RW':Nat->Nat->Prop} {Ls:Nat->List AN}
theorem Ev.refl(n:Nat):Ev W RW RW n:=λ_ _ _ h=>.inl h
theorem EI.away(T:EI B w W K pool RW Ls)(f:Fr D w w')(c:∀k,k<W->∀i,RW k i->¬D i):EI B w' W K pool RW Ls:=
 ⟨T.dis,λk b=>(T.sto k b).fr f (c k b),λk b i hi=>QJ (T.lt k b i hi) f.size⟩
theorem EI.up[L:Le w w'](T:EI B w W K pool RW Ls):EI B w' W K pool RW Ls:=T.away L.e λ_ _ _ _ h=>h
theorem EI.put{L:List AN}(T:EI B w W K pool RW Ls)(v:k<W)(S:Ci (gR (RW k) w w') B w' (K.sb k) (K.sg k) pool L)(f:Fr (RW k) w w'):
  EI B w' W K pool (GK RW k (gR (RW k) w w')) (I8 Ls k L):=by
 have e:∀j,j≠k->GK RW k (gR (RW k) w w') j=RW j:=λj h=>if_neg h;have p:GK RW k (gR (RW k) w w') k=gR (RW k) w w':=if_pos rfl;refine⟨λj r b d l i hi=>?_,λj b=>?_,λj b i hi=>?_⟩
 ·by_cases c:j=k
  ·subst c;rw[p]at hi;rw[e r (λh=>l h.symm)];rcases hi with hi|hi
   ·exact T.dis _ _ b d l i hi
   ·intro o;have:=T.lt r d i o;omega
  ·rw[e j c]at hi;by_cases o:r=k
   ·subst o;rw[p];rintro(t|t)
    ·exact T.dis _ _ b d l i hi t
    ·have:=T.lt j b i hi;omega
   ·rw[e r o];exact T.dis _ _ b d l i hi
 ·by_cases c:j=k
  ·subst c;rw[p,show I8 Ls j L j=L from if_pos rfl];exact S
  ·rw[e j c,show I8 Ls k L j=Ls j from if_neg c];exact(T.sto j b).fr f λi hi o=>T.dis _ _ b v c i hi o
 ·by_cases c:j=k
  ·subst c;rw[p]at hi;rcases hi with hi|hi
   ·exact QJ (T.lt j b i hi) f.size
   ·exact hi.2
  ·rw[e j c]at hi;exact QJ (T.lt j b i hi) f.size
theorem Ev.put(h:Ev W RW RW' n)(d:n<=w.heap.size):Ev W RW (GK RW' k (gR (RW' k) w w')) n:=λj b i hi=>by
 by_cases c:j=k
 ·subst c;rw[show GK RW' j (gR (RW' j) w w') j=gR (RW' j) w w' from if_pos rfl]at hi;rcases hi with hi|hi
  ·exact h j b i hi
  ·exact .inr (by omega)
 ·rw[show GK RW' k (gR (RW' k) w w') j=RW' j from if_neg c]at hi;exact h j b i hi
def Gr (W:Nat) (RW:Nat->Nat->Prop):Nat->Prop:=λi=>∃k,k<W/\RW k i
theorem Ev.fr(h:Ev W RW RW' w.heap.size)(f:Fr (Gr W RW) w u)(b:k<W)(d:Fr (RW' k) u u'):Fr (Gr W RW) w u':=
 f.join d (λ_ _ hi=>hi) λi hi e=>(h k b i e).elim (λc=>⟨k,b,c⟩) λc=>by omega
end
structure Co (kx:Nat) (R:Nat->Prop) (B:Nat) (w:World) (bs:Nat) (g:An) (c:DN) (s:ES) (Ls:Nat->List AN) (K:He) (wt hd:SV) (lw:List Ay) (lh:List BC) (lj:List FK) (RW:Nat->Nat->Prop):Prop where
 reg:∀i,R i->B<=i/\i<w.heap.size
 rs:R bs
 rj:R K.bj
 ne:bs≠K.bj
 rw:∀k,k<c.workers->∀i,RW k i->R i/\i≠bs/\i≠K.bj
 cell:Bk w bs (Io c K wt hd) 158
 jobs:AD B 258 w (.slice (some ⟨K.bj,0,none⟩) c.slots K.jc) lj
 st:EI B w c.workers K c.pool RW Ls
 fz:Fz (Cr bs K.bj c.workers RW) R w (GE kx g c K wt hd lw lh lj s)
 gi:Bb g
 ci:Km c
 ps:K.ps.length<=2000
 so:DX g c s
def CU (R:Nat->Prop) (B:Nat) (w:World) (bs:Nat) (g:An) (c:DN) (s:ES) (Ls:Nat->List AN):Prop:=
 ∃K wt hd lw lh lj RW,Co 1000 R B w bs g c s Ls K wt hd lw lh lj RW
def aE (R:Nat->Prop) (B:Nat) (w:World) (bs:Nat) (g:An) (c:DN) (s:ES) (Ls:Nat->List AN) (k0:Nat):Prop:=
 ∃K wt hd lw lh lj RW,Co k0 R B w bs g c s Ls K wt hd lw lh lj RW
def BB (R:Nat->Prop) (B:Nat) (w:World) (bs:Nat) (g:An) (c:DN) (s:ES):Prop:=CU R B w bs g c s (FA g c.workers s.held)
section
variable {kx kx':Nat} {R:Nat->Prop} {B:Nat} {w w':World} {bs:Nat} {g:An} {c:DN} {s:ES} {Ls:Nat->List AN} {K:He} {wt hd:SV} {lw:List Ay} {lh:List BC} {lj:List FK} {RW:Nat->Nat->Prop}
theorem Co.mut(S:Co kx R B w bs g c s Ls K wt hd lw lh lj RW)(h:Cr bs K.bj c.workers RW i):R i:=by
 rcases h with rfl|rfl|⟨k,b,h⟩
 ·exact S.rs
 ·exact S.rj
 ·exact(S.rw k b i h).1
theorem Co.away(S:Co kx R B w bs g c s Ls K wt hd lw lh lj RW)(f:Fr D w w')(b:∀i,D i->¬R i):Co kx R B w' bs g c s Ls K wt hd lw lh lj RW:=
 ⟨λi hi=>⟨(S.reg i hi).1,QJ (S.reg i hi).2 f.size⟩,S.rs,S.rj,S.ne,S.rw,S.cell.fr f λh=>b _ h S.rs,S.jobs.fr f λg _ d h=>by cases d;exact b _ h S.rj,
  S.st.away f λk e i hi h=>b i h (S.rw k e i hi).1,S.fz.away f b,S.gi,S.ci,S.ps,S.so⟩
theorem BB.away(S:BB R B w bs g c s)(f:Fr D w w')(b:∀i,D i->¬R i):BB R B w' bs g c s:=by
 obtain⟨K,wt,hd,lw,lh,lj,RW,S⟩:=S;exact⟨K,wt,hd,lw,lh,lj,RW,S.away f b⟩
theorem Co.up[L:Le w w'](S:Co kx R B w bs g c s Ls K wt hd lw lh lj RW):Co kx R B w' bs g c s Ls K wt hd lw lh lj RW:=S.away L.e λ_ h=>h.elim
theorem BB.up[L:Le w w'](S:BB R B w bs g c s):BB R B w' bs g c s:=S.away L.e λ_ h=>h.elim
theorem Co.wide{R':Nat->Prop}(S:Co kx R B w bs g c s Ls K wt hd lw lh lj RW)(h:∀i,R i->R' i)(d:∀i,R' i->B<=i/\i<w.heap.size):Co kx R' B w bs g c s Ls K wt hd lw lh lj RW:=
 ⟨d,h _ S.rs,h _ S.rj,S.ne,λk b i hi=>⟨h _ (S.rw k b i hi).1,(S.rw k b i hi).2⟩,S.cell,S.jobs,S.st,λu f=>S.fz u (f.mono λi _ e=>e.imp id λl o=>l (h i o)),S.gi,S.ci,S.ps,S.so⟩
theorem CU.wide{R':Nat->Prop}(S:CU R B w bs g c s Ls)(h:∀i,R i->R' i)(b:∀i,R' i->B<=i/\i<w.heap.size):CU R' B w bs g c s Ls:=by
 obtain⟨K,wt,hd,lw,lh,lj,RW,S⟩:=S;exact⟨K,wt,hd,lw,lh,lj,RW,S.wide h b⟩
theorem CU.reg(S:CU R B w bs g c s Ls):(∀i,R i->B<=i/\i<w.heap.size)/\Bb g/\Km c/\DX g c s:=by
 obtain⟨K,wt,hd,lw,lh,lj,RW,S⟩:=S;exact⟨S.reg,S.gi,S.ci,S.so⟩
theorem Co.mutN(S:Co kx R B w bs g c s Ls K wt hd lw lh lj RW){b:Nat->Nat->Prop}(h:Ev c.workers RW b n):∀i,i<n->Cr bs K.bj c.workers b i->Cr bs K.bj c.workers RW i:=λi hi l=>by
 rcases l with d|d|⟨k,e,d⟩
 ·exact .inl d
 ·exact .inr (.inl d)
 ·exact(h k e i d).elim (λf=>.inr (.inr ⟨k,e,f⟩)) λf=>by omega
theorem Co.fin{s':ES}{Ls':Nat->List AN}{b d:SV}{o:List Ay}{p:List BC}{h:List FK}{l:Nat->Nat->Prop}(S:Co kx R B w bs g c s Ls K wt hd lw lh lj RW)(e:w.heap.size<=w1.heap.size)
  (f:Fr (Cr bs K.bj c.workers RW) w1 w')(A:B<=w.heap.size)(C:Bk w' bs (Io c K b d) 158)(J:AD B 258 w' (.slice (some ⟨K.bj,0,none⟩) c.slots K.jc) h)(T:EI B w' c.workers K c.pool l Ls')(G:Ev c.workers RW l w1.heap.size)
  (x:DX g c s')(Z:Fz (Cr bs K.bj c.workers RW) (gR R w w1) w1 (GE kx' g c K b d o p h s')):Co kx' (gR R w w') B w' bs g c s' Ls' K b d o p h l:=by
 have E:=f.size;refine⟨λi hi=>?_,.inl S.rs,.inl S.rj,S.ne,λk r i hi=>?_,C,J,T,?_,S.gi,S.ci,S.ps,x⟩
 ·rcases hi with hi|hi
  ·have:=S.reg i hi;omega
  ·omega
 ·have F:=S.reg bs S.rs;have H:=S.reg K.bj S.rj;have y:=G k r i hi;rcases y with v|v
  ·exact⟨.inl (S.rw k r i v).1,(S.rw k r i v).2⟩
  ·have:=T.lt k r i hi;exact⟨.inr ⟨by omega,this⟩,by omega,by omega⟩
 ·refine Z.step f (λi hi z=>S.mutN G i hi z) λi hi t=>?_;rcases t with t|t
  ·exact .inl t
  ·exact .inr (by omega)
theorem Co.loose(S:Co 1000 R B w bs g c s Ls K wt hd lw lh lj RW)(k0:Nat):Co k0 R B w bs g c s Ls K wt hd lw lh lj RW:=by
 have o:=S.so.len;have r:=S.ci.slots;refine⟨S.reg,S.rs,S.rj,S.ne,S.rw,S.cell,S.jobs,S.st,S.fz.imp λu b=>⟨b.rows,b.pos,b.words,b.wk,b.fw,b.fh,b.lwn,b.waits,b.lhn,b.ljn,λk h l=>?_⟩,S.gi,S.ci,S.ps,S.so⟩;have f:=b.helds k h l;have t:=b.lhn
 cases e:s.held.getD k none with
 |none=>rw[e]at f;exact f
 |some p=>obtain⟨d,i⟩:=p;rw[e]at f;exact⟨f.1,f.2.1,λ_=>f.2.2 (by omega)⟩
theorem CU.z(S:CU R B w bs g c s Ls)(k0:Nat):aE R B w bs g c s Ls k0:=by
 obtain⟨K,wt,hd,lw,lh,lj,RW,S⟩:=S;exact⟨K,wt,hd,lw,lh,lj,RW,S.loose k0⟩
theorem Co.fz1[L:Le w w'](S:Co kx R B w bs g c s Ls K wt hd lw lh lj RW):Fz (Cr bs K.bj c.workers RW) (gR R w w') w' (GE kx g c K wt hd lw lh lj s):=
 S.fz.step (Fr.fr L.e) (λ_ _ h=>h) λ_ _ h=>.inl h
theorem Co.fzO{α:Type}[AK α]{C:Nat}{e:TypeId}{v:Value}{l:List α}(S:Co kx R B w bs g c s Ls K wt hd lw lh lj RW)(O:AD C e w' v l)(hC:w.heap.size<=C):Fz (Cr bs K.bj c.workers RW) (gR R w w') w' λu=>AQ u v l:=
 O.fz λi d b=>⟨.inr ⟨by omega,b⟩,λh=>by have:=S.reg i (S.mut h);omega⟩
theorem aJ(b:w.heap.size<=u.heap.size)(d:u.heap.size<=u'.heap.size):∀i,gR (gR R w u) u u' i->gR R w u' i:=λi hi=>by
 rcases hi with (hi|hi)|hi
 ·exact .inl hi
 ·exact .inr (by omega)
 ·exact .inr (by omega)
theorem Vg{bs b W:Nat}{RW:Nat->Nat->Prop}(h:Gr W RW i):Cr bs b W RW i:=.inr (.inr h)
end
section
variable {kx:Nat} {R:Nat->Prop} {B:Nat} {w0 w w':World} {bs:Nat} {g:An} {c:DN} {s:ES} {Ls:Nat->List AN} {K:He} {wt hd:SV} {lw:List Ay} {lh:List BC} {lj:List FK} {RW:Nat->Nat->Prop}
theorem zNS{b:Hs}{k0:Nat}{a:BC}{j:FK}{o:Option (Bt×Nat)}(d:k0<b.length)(H:∀k (h:k<lh.length) (f:k<lj.length),Db kx u g lh[k] lj[k] (b.getD k none) k)(h:Db kx u g a j o k0):
  ∀k (h:k<(lh.set k0 a).length) (f:k<(lj.set k0 j).length),Db kx u g (lh.set k0 a)[k] (lj.set k0 j)[k] ((b.set k0 o).getD k none) k:=λk l p=>by
 rw[RF d];by_cases e:k=k0
 ·subst e;rw[if_pos rfl,JX,JX];exact h
 ·rw[if_neg e,JT (Jq e),JT (Jq e)];exact H k (by simpa using l) (by simpa using p)
theorem WV{f:Hs}{k0:Nat}{a:BC}{j:FK}(o:k0<f.length)(H:∀k (h:k<lh.length) (r:k<lj.length),Db k0 u g lh[k] lj[k] (f.getD k none) k)(t:a.used=false:=by rfl):
  ∀k (h:k<(lh.set k0 a).length) (r:k<(lj.set k0 j).length),Db 1000 u g (lh.set k0 a)[k] (lj.set k0 j)[k] ((f.set k0 none).getD k none) k:=λk v x=>by
 rw[RF o];by_cases e:k=k0
 ·subst e;rw[if_pos rfl,JX,JX];exact t
 ·rw[if_neg e,JT (Jq e),JT (Jq e)];have b:=H k (by simpa using v) (by simpa using x)
  cases l:f.getD k none with
  |none=>rw[l]at b;exact b
  |some p=>obtain⟨d,i⟩:=p;rw[l]at b;exact⟨b.1,b.2.1,λ_=>b.2.2 e⟩
theorem EI.congr{W b:Nat}{Ls':Nat->List AN}(T:EI B w W K b RW Ls)(h:∀k,k<W->Ls k=Ls' k):EI B w W K b RW Ls':=
 ⟨T.dis,λk d=>h k d ▸ T.sto k d,T.lt⟩
theorem cR{v:Nat}(h:AV B (.slice (some ⟨v,0,none⟩) n m) i):i=v:=by have:=h.2.1;cases this;rfl
theorem pQ{k0:Nat}{x:Bt}(S:Co k0 R B w bs g c s Ls K wt hd lw lh lj RW)(H:Lo g c.workers s.held k0 Ls)(C:s.held.getD k0 none=some (x,i))(hB:B<=w.heap.size):
  Sp PP 109 #[.pointer (some ⟨bs,0,none⟩),.int .i64 (k0:Int)] w λ_ w'=>BB (gR R w w') B w' bs g c ⟨s.wait,s.held.set k0 none⟩/\Fr (Cr bs K.bj c.workers RW) w w':=by
 have e:=(PR C).1;have r:=S.fz.here;have W:=S.so.len;have a0:=S.ci.slots;have hW:=S.ci.workers;have t:k0<lh.length:=by rw[r.lhn];exact e
 have v:k0<lj.length:=by rw[r.ljn];exact e
 have E:lh[k0].used=true:=by
  have:=r.helds k0 t v;rw[C]at this;exact this.1
 have a1:lh.length<=64:=by rw[r.lhn];omega
 have D:=zJV (i:=(k0:Int)) r.fh (by omega)
 have F:MZ lh (k0:Int)=(lh.set k0 BA,0):=by
  unfold MZ;rw[if_neg (by omega),QW,Ph t,if_pos E]
 rw[F]at D;have a4:=S.reg _ S.rj;refine eN ?_;refine rX S.cell rfl (AA D ?_);rintro _ w1 ⟨⟨v',rfl,X⟩,e1⟩;have q_:=X.shape;obtain⟨I,J,rfl⟩:=q_;refine iT rfl (rS S.cell [.slice I (lh.set k0 BA).length J] (Gs _ _ _) λw2 z Y _=>?_);have z:Bk w2 bs (Io c K wt ⟨I,(lh.set k0 BA).length,J⟩) 158:=z;refine rX z rfl (AJ (cs:=enc Ov) rfl ?_);have Z:=(S.jobs.up (w':=w1)).fr Y (λg _ L h=>by cases L;exact S.ne h.symm);refine Fs rfl Z (x:=lj[k0]) (by simp) λgj hgj _ _=>CZ rfl Ov Z hgj v rfl λo J3 A _=>?_;have A:Fr (λi=>i=K.bj) w2 o:=A.mono λi _ hi=>cR hi;have p:Fr (λi=>i=bs\/i=K.bj) w1 o:=(Y.mono λi _ hi=>.inl hi).trans (A.mono λi _ hi=>.inr hi);have C3:=z.fr A S.ne
 have Z1:Fz (Cr bs K.bj c.workers RW) (gR R w w1) w1 (GE 1000 g c K wt ⟨I,(lh.set k0 BA).length,J⟩ lw (lh.set k0 BA) (lj.set k0 Ov) ⟨s.wait,s.held.set k0 none⟩):=
  ((S.fz1 (w':=w1)).and (S.fzO X (Qe _))).imp λu ⟨l,Sh⟩ =>
   ⟨l.rows,l.pos,l.words,l.wk,l.fw,Sh,l.lwn,l.waits,by simp[l.lhn],by simp[l.ljn],WV e l.helds⟩
 have y:Fr (Cr bs K.bj c.workers RW) w1 o:=p.mono λi _ hi=>hi.elim .inl λh=>.inr (.inl h);have a5:=p.size;have M:Fz (Cr bs K.bj c.workers RW) (gR R w o) o _:=Z1.step y (λ_ _ h=>h) (λi _ h=>h.imp id λh=>by omega);have T3:EI B o c.workers K c.pool RW Ls:=(S.st.up (w':=w1)).away p λk e i hi h=>by have:=(S.rw k e i hi).2;omega
 have F3:=M.here;have a6:K.wk.n=c.workers:=by have:=F3.wk.len;simpa using this
 refine rX C3 rfl ?_
 refine cN 35 [7] 35 c.workers (λj u=>∃b,EI B u c.workers K c.pool b (λk=>if k<j then I9 (Ls k) k0 else Ls k)/\Ev c.workers RW b o.heap.size/\Fr (Gr c.workers RW) o u)
  ⟨RW,T3.congr λk _=>by simp,.refl _,Fr.refl _ _⟩ ?_
 rintro j G u hj ⟨b,T,N,f⟩;have Fu:=M u (f.mono λi _ h=>.inl (Vg h));refine ite (λAY=>?_) (λa7=>?_)
 ·have d:j<c.workers:=by omega
  refine Bv Fu.wk (x:=⟨K.sb j⟩) (by simp[d]) λb1 o1 A1=>AF (A1.cell0 rfl) ?_;have Tj:Ci (b j) B u (K.sb j) (K.sg j) c.pool (Ls j):=by have:=T.sto j d;rwa[if_neg (Yc _)]at this
  refine AA (yK (s:=(k0:Int)) Tj) ?_;rintro _ u1 ⟨rfl,S1,_,f1⟩;refine rA ⟨rfl,d,GK b j (gR (b j) u u1),(T.put d S1 f1).congr λk _=>?_,N.put f.size,N.fr f d f1⟩;unfold I8;dsimp only;by_cases h1:k=j
  ·subst h1;rw[if_pos rfl,if_pos (by omega)]
  ·rw[if_neg h1];by_cases h2:k<j
   ·rw[if_pos h2,if_pos (by omega)]
   ·rw[if_neg h2,if_neg (by omega)]
 ·have O:j=c.workers:=by omega
  subst O;have T':EI B u c.workers K c.pool b (FA g c.workers (s.held.set k0 none)):=T.congr λk Q=>by rw[if_pos Q];exact H.drop e k
  have U:¬Gr c.workers RW bs:=λ⟨k,e,h⟩=>(S.rw k e _ h).2.1 rfl;have V:¬Gr c.workers RW K.bj:=λ⟨k,e,h⟩=>(S.rw k e _ h).2.2 rfl;have z1:=lz w w1;refine⟨⟨K,wt,_,lw,_,_,b,S.fin (w1:=o) (by omega) (f.mono λi _ h=>Vg h) hB (C3.fr f U) (J3.fr f λg _ L h=>by cases L;exact V h) T' N (zQb S.so C) M⟩,?_⟩;exact((fE w w1).trans y).trans (f.mono λi _ h=>Vg h)
theorem zIM{k0:Nat}{x:Bt}(S:aE R B w bs g c s Ls k0)(H:Lo g c.workers s.held k0 Ls)(b:s.held.getD k0 none=some (x,i))(d:B<=w.heap.size):
  Sp PP 109 #[.pointer (some ⟨bs,0,none⟩),.int .i64 (k0:Int)] w λ_ w'=>BB (gR R w w') B w' bs g c ⟨s.wait,s.held.set k0 none⟩/\Fr R w w':=by
 obtain⟨K,wt,hd,lw,lh,lj,RW,S⟩:=S;exact(pQ S H b d).mono λv w' h=>⟨h.1,h.2.mono λi _ h=>S.mut h⟩
theorem zPc{lw:List Ay}{l:List Bt}(b:lw.length=l.length)(h:∀i (h:i<lw.length) (o:i<l.length),lw[i].id=l[i].id)(id:Int):plc lw id=EK l id:=
 wD (f:=λr:Ay=>some r.id) (f':=λr:Bt=>some r.id) (id:=id) (λx=>by simp) (λx=>by simp) (eH b λi d e=>by rw[h i d e])
theorem zNe{h:Hs}(l:lh.length=h.length)(v:lj.length=h.length)(H:∀k (b:k<lh.length) (y:k<lj.length),Db kx w g lh[k] lj[k] (h.getD k none) k)(id:Int):Fm lh id=Dh h id:=by
 refine wD (f:=λr:BC=>if r.used then some r.r.id else none) (f':=λo=>o.map λp=>p.1.id) (id:=id) (λx=>?_) (λx=>?_) (eH l λi b t=>?_)
 ·cases x.used<;>simp
 ·cases x<;>simp
 ·have:=H i b (by omega);rw[Qk,Qd t,QP]at this
  cases e:h[i] with
  |none=>rw[e]at this;simp only[Db]at this;simp[this]
  |some p =>
   obtain⟨d,j⟩:=p;rw[e]at this;simp[this.1,this.2.1.id]
theorem GE.plc(b:GE kx g c K wt hd lw lh lj s u)(id:Int):plc lw id=EK s.wait id:=zPc b.lwn (λi h d=>(b.waits i h d).id) id
theorem GE.found(b:GE kx g c K wt hd lw lh lj s u)(id:Int):Fm lh id=Dh s.held id:=zNe b.lhn b.ljn b.helds id
theorem Co.small(S:Co kx R B w bs g c s Ls K wt hd lw lh lj RW):lw.length<=1000/\lh.length<=64:=by
 have b:=S.fz.here;have:=S.so.len;have:=S.so.wl;have:=S.ci.slots;have:=S.ci.queue;rw[b.lwn,b.lhn];omega
theorem Co.waits[L:Le w w1]{s':ES}{f:OA}{l:Nat}{b:List Ay}(S:Co 1000 R B w bs g c s (FA g c.workers s.held) K wt hd lw lh lj RW)(o:B<=w.heap.size)(p:s'.held=s.held)
  (r:Bk w2 bs (Io c K ⟨f,b.length,l⟩ hd) 158)(d:Fr (λi=>i=bs) w1 w2)(t:DX g c s')
  (v:Fz (Cr bs K.bj c.workers RW) (gR R w w1) w1 (GE 1000 g c K ⟨f,b.length,l⟩ hd b lh lj s')):BB (gR R w w2) B w2 bs g c s'/\∀u,Le u w1->Fr R u w2:=by
 have z:=L.e.size;refine⟨⟨K,⟨f,b.length,l⟩,hd,b,lh,lj,RW,?_⟩,λu x=>(Fr.fr x.e).trans (d.mono λi _ h=>h ▸ S.rs)⟩;rw[p];refine S.fin z (d.mono λi _ h=>.inl h) o r ?_ ?_ (.refl _) t v
 ·exact(S.jobs.up (w':=w1)).fr d λg _ y h=>by cases y;exact S.ne h.symm
 ·exact(S.st.up (w':=w1)).away d λk A i hi h=>(S.rw k A i hi).2.1 h
theorem BB.new[L:Le w w'](S:BB R B w bs g c s)(b:B<=w.heap.size):BB (gR R w w') B w' bs g c s/\Fr R w w':=by
 have h:=CU.reg S;refine⟨CU.wide (BB.up S) (λi hi=>.inl hi) λi hi=>?_,Fr.fr L.e⟩;have:=L.e.size;rcases hi with hi|hi
 ·have:=h.1 i hi;omega
 ·omega
theorem BB.gr[L:Le w w1](S:BB (gR R w1 w') B w' bs g c s)(h:w1.heap.size<=w'.heap.size)(b:B<=w.heap.size):BB (gR R w w') B w' bs g c s:=by
 have h0:=CU.reg S;have:=L.e.size;refine CU.wide S (λi hi=>hi.imp id λh=>by omega) λi hi=>?_;rcases hi with hi|hi
 ·exact h0.1 i (.inl hi)
 ·omega
theorem BB.lo(S:BB R B w bs g c s):∀i,R i->i<w.heap.size:=λi hi=>((CU.reg S).1 i hi).2
theorem zIL{x:Ay}(S:BB R B w0 bs g c s)[L:Le w0 w](o:B<=w0.heap.size):
  Sp PP 164 #[.pointer (some ⟨bs,0,none⟩),agg x] w λv w'=>v=.int .i64 (DJ s x.id).2/\BB (gR R w0 w') B w' bs g c (DJ s x.id).1/\Fr R w w':=by
 have J:=S;obtain⟨K,wt,hd,lw,lh,lj,RW,S⟩:=S;have p:=S.fz.here;have V:=S.small;have r:=p.plc x.id;have t:=p.found x.id;have ok:=(zP1 S.so x.id).1;have W:=p.fw.len;refine eN ?_;refine BM λb1 w1 n1 M=>dQ 12 λw2 e2=>tX S.cell rfl nf (tX M rfl nf ?_);refine AA (zG (id:=x.id) (S.fz.at (w':=w2)).fw (by omega)) ?_;rintro _ A ⟨⟨v',rfl,d⟩,N⟩;refine⟨Fr.fr N,?_⟩;have s3:AC w2 A:=⟨N⟩;unfold Nz at d ⊢;unfold DJ at ok ⊢;rw[r]at d ⊢
 cases C:EK s.wait x.id with
 |some k =>
  rw[C]at d ok;have f:=sG C;obtain⟨hk,X⟩:=f;dsimp only at d ok ⊢;have f:=d.shape;obtain⟨a3,O,rfl⟩:=f;refine rS S.cell [.slice a3 (lw.take k++lw.drop (k+1)).length O] (Gs _ _ _) λE F Y _=>?_;have F:Bk E bs (Io c K ⟨a3,(lw.take k++lw.drop (k+1)).length,O⟩ hd) 158:=F;have Q:=S.waits (w1:=A) (s':=⟨s.wait.eraseIdx k,s.held⟩) o rfl F Y ok ?_;exact⟨rfl,Q.1,Q.2 w inferInstance⟩;refine((S.fz1 (w':=A)).and (S.fzO d (lz w0 w2))).imp λu ⟨b,Z⟩=>⟨b.rows,b.pos,b.words,b.wk,Z,b.fh,?_,λi h h'=>?_,b.lhn,b.ljn,b.helds⟩
  ·have:=b.lwn;simp only[Qb,Qm,QR,Vt];split<;>omega
  ·have hl:=b.lwn;dsimp only at h';have G:s.wait.eraseIdx k=s.wait.take k++s.wait.drop (k+1):=Jp ..;simp only[G,VR,Qm];have H:min k lw.length=k:=by omega
   have I:min k s.wait.length=k:=by omega
   simp only[H,I];split
   ·simp only[VI];exact b.waits i (by omega) (by omega)
   ·simp only[List.getElem_drop];have:i<(lw.take k++lw.drop (k+1)).length:=h;simp only[Qb,Qm,QR]at this;exact b.waits (k+1+(i - k)) (by omega) (by omega)
 |none =>
  rw[C]at ok;dsimp only at ok ⊢;refine dQ 12 λE e4=>tX S.cell rfl nf (tX M rfl nf ?_);refine AA (rV (id:=x.id) (S.fz.at (w':=E)).fh (by omega)) ?_;rintro _ l ⟨rfl,e5⟩;refine⟨e5.e,?_⟩;rw[t]
  cases hh:Dh s.held x.id with
  |some k =>
   have f:=oT hh;obtain⟨y,i,hy,T⟩:=f;refine AA (zIM (k0:=k) (CU.z (BB.up (w':=l) J) k) (zOD k) hy (Qw o (lz w0 l))) ?_;rintro _ w6 ⟨S6,U⟩;exact⟨rfl,BB.gr (w:=w0) S6 U.size o,(fE w l).trans U⟩
  |none =>
   exact⟨rfl,(BB.new (w':=l) J o).1,fE w l⟩
theorem Eo.small{d:Bt}(h:Eo d):d.q.words.length<=8/\∀s∈d.q.words,s.size<=12:=by
 obtain⟨e,p,b⟩:=h;by_cases f:d.kind=4
 ·rw[if_pos f]at b;rw[b];simp[L3]
 ·rw[if_neg f]at b;rcases e with e|⟨e,h5⟩
  ·exact absurd e f
  ·by_cases l:d.kind=3
   ·have:=h5.2.2.2 (by omega);exact⟨this.1.2,λs o=>(this.2.2.2 s o).2.2⟩
   ·rw[if_neg l]at b;rw[b.1];simp
theorem NH.up{B:Nat}[L:Le w w']{x:Ay}{d:Bt}(h:NH B w x d):NH B w' x d:=⟨h.1,h.2.1,h.2.2.1,h.2.2.2.1,h.2.2.2.2.1,h.2.2.2.2.2.1.up,h.2.2.2.2.2.2⟩
theorem NH.fz{M R:Nat->Prop}{B:Nat}{x:Ay}{d:Bt}(h:NH B w x d)(b:∀i,B<=i->i<w.heap.size->R i/\¬M i):Fz M R w λu=>MV u x d:=λu f =>
 ⟨h.1,h.2.1,⟨h.2.2.1,h.2.2.2.1,h.2.2.2.2.1,h.2.2.2.2.2.1.fz b u f,h.2.2.2.2.2.2.1,h.2.2.2.2.2.2.2⟩⟩
theorem GE.off(b:GE kx g c K wt hd lw lh lj s u):K.xr.off.n=g.n+1:=by
 have:=b.rows.off.len;rw[Mk]at this;exact this
theorem yA{x:Ay}{d:Bt}(S:BB R B w0 bs g c s)[L:Le w0 w](Q:B<=w0.heap.size)(O:NH w0.heap.size w x d)(C:Eo d):
  Sp PP 163 #[.pointer (some ⟨bs,0,none⟩),agg x] w λv w'=>v=.int .i64 (DU g c s d (CD d.q g.n)).2/\BB (gR R w0 w') B w' bs g c (DU g c s d (CD d.q g.n)).1/\Fr R w w':=by
 have U:=S;obtain⟨K,wt,hd,lw,lh,lj,RW,S⟩:=S;have E:=S.fz.here;have a1:=S.small;have F:=C.small;have o:x.id=d.id:=O.1;have G:=E.plc x.id;have H:=E.found x.id;rw[o]at G H;have I:=E.off;have a4:=S.gi.ok.n2;have z:=Nj (x:=d) S.so C.2.1;have r:∃s' b,DU g c s d (CD d.q g.n)=(s',b):=⟨_,_,rfl⟩;obtain⟨s',b,l⟩:=r
 have W:¬CD d.q g.n->s'=s/\b=180:=λh=>by
  unfold DU at l;rw[if_neg h]at l;cases l;exact⟨rfl,rfl⟩
 have X:CD d.q g.n->∀k,Dh s.held d.id=some k->s'=s/\b=150:=λh k Y=>by
  unfold DU at l;rw[if_pos h,Y]at l;cases l;exact⟨rfl,rfl⟩
 have Z:CD d.q g.n->Dh s.held d.id=none->∃L,Ra lw c.queue x=(L,b)/\(b=0/\L=lw++[x]/\s'=⟨s.wait++[d],s.held⟩\/b≠0/\s'=s):=λh Y=>by
  unfold DU at l;rw[if_pos h,Y,if_neg (by simp)]at l;unfold Ra;rw[o,G]
  cases hw:EK s.wait d.id with
  |some k=>rw[hw]at l;cases l;exact⟨[],rfl,.inr ⟨by decide,rfl⟩⟩
  |none =>
   rw[hw,if_neg (by simp)]at l;rw[if_neg (by simp)];have e:((c.queue:Int)<=(lw.length:Nat))↔c.queue<=s.wait.length:=by rw[E.lwn];omega
   by_cases t:c.queue<=s.wait.length
   ·rw[if_pos t]at l;cases l;rw[if_pos (e.2 t)];exact⟨[],rfl,.inr ⟨by decide,rfl⟩⟩
   ·rw[if_neg t]at l;cases l;rw[if_neg (λh=>t (e.1 h))];exact⟨_,rfl,.inl ⟨rfl,rfl,rfl⟩⟩
 rw[l]at z ⊢;dsimp only at z ⊢;refine eN ?_;refine BM λb1 w1 n1 B1=>dQ 11 λw2 e2=>tG B1 x.q nf (tX S.cell rfl nf ?_);rw[I];refine IV (y:=(g.n:Int)) (by push_cast;omega) (by omega) ?_;have V2:UF w2 x.q d.q:=((NH.up (w':=w2) O).v).q;refine AA (nE (n:=(g.n:Int)) V2 (by omega) (λs hs=>by have:=F.2 s hs;omega)) ?_;rintro _ w3 ⟨J,e3⟩;refine⟨e3.e,?_⟩;rcases J with⟨T,rfl⟩|⟨T,rfl⟩
 case inr =>
  have r:=W T;obtain⟨rfl,rfl⟩:=r;refine iT (by simp) ?_;exact⟨rfl,(BB.new (w':=w3) U Q).1,fE w w3⟩
 refine iF (· rfl) (dQ 12 λw4 e4=>tX S.cell rfl nf (tX B1 rfl nf ?_));have D:=rV (id:=x.id) (S.fz.at (w':=w4)).fh (by omega);rw[o,H]at D;refine AA (f:=225) (by rw[o];exact D) ?_;rintro _ w5 ⟨rfl,e5⟩;refine⟨e5.e,?_⟩
 cases hh:Dh s.held d.id with
 |some k =>
  have r:=X T k hh;obtain⟨rfl,rfl⟩:=r;exact⟨rfl,(BB.new (w':=w5) U Q).1,fE w w5⟩
 |none =>
  have r:=Z T hh;obtain⟨L,N,hL⟩:=r;have a5:=E.fw.len;refine dQ 16 λw6 e6=>tX S.cell rfl nf (tX S.cell rfl nf ?_);refine tG B1 x nf ?_;have D:=zMb (most:=(c.queue:Int)) (x:=x) (S.fz.at (w':=w6)).fw (by omega);rw[N]at D;refine AA D ?_;rintro _ A ⟨⟨v',rfl,O7⟩,e7⟩;refine⟨Fr.fr e7,?_⟩;have s7:AC w6 A:=⟨e7⟩;rcases hL with⟨rfl,rfl,rfl⟩|⟨a0,rfl⟩
  case inr =>
   refine iF a0 ?_;exact⟨rfl,(BB.new (w':=A) U Q).1,fE w A⟩
  refine iT rfl ?_;dsimp only at O7;have r:=O7.shape;obtain⟨a7,c7,rfl⟩:=r;refine rS S.cell [.slice a7 (lw++[x]).length c7] (Gs _ _ _) λw8 C8 f8 _=>?_;have C8:Bk w8 bs (Io c K ⟨a7,(lw++[x]).length,c7⟩ hd) 158:=C8;have ok:DX g c ⟨s.wait++[d],s.held⟩:=by simp_all
  have hW:=S.waits (w1:=A) (s':=⟨s.wait++[d],s.held⟩) Q rfl C8 f8 ok ?_;exact⟨rfl,hW.1,hW.2 w inferInstance⟩;have ZO:=(NH.up (w':=A) O).fz (M:=Cr bs K.bj c.workers RW) (R:=gR R w0 A) λi h1 h2=>⟨.inr ⟨h1,h2⟩,λh=>by have:=S.reg i (S.mut h);omega⟩;refine((S.fz1 (w':=A)).and ((S.fzO O7 (lz w0 w6)).and ZO)).imp λu ⟨p,Sw,V⟩=>⟨p.rows,p.pos,p.words,p.wk,Sw,p.fh,?_,λi h h'=>?_,p.lhn,p.ljn,p.helds⟩
  ·simp[p.lwn]
  ·have hl:=p.lwn;simp only[VR];by_cases hi:i<lw.length
   ·rw[dif_pos hi,dif_pos (by omega)];exact p.waits i hi (by omega)
   ·rw[dif_neg hi,dif_neg (by omega)];simp only[List.getElem_singleton];exact V
end
section
variable {kx:Nat} {R:Nat->Prop} {B:Nat} {w0 w w':World} {bs:Nat} {g:An} {c:DN} {s:ES} {Ls:Nat->List AN} {K:He} {wt hd:SV} {lw:List Ay} {lh:List BC} {lj:List FK} {RW:Nat->Nat->Prop}
theorem GE.wkn(b:GE kx g c K wt hd lw lh lj s u):K.wk.n=c.workers:=by have:=b.wk.len;simpa using this
theorem zIJ(S:BB R B w bs g c s):Sp PP 60 #[.pointer (some ⟨bs,0,none⟩)] w λv w'=>AD w.heap.size 3 w' v ((List.range c.workers).map λk=>(DG g c.workers s.held k:Int))/\AC w w':=by
 obtain⟨K,wt,hd,lw,lh,lj,RW,S⟩:=S;have r:=S.ci.workers;have d:=S.fz.here.wkn;refine eN ?_;refine Dy (rX S.cell rfl (cO 13 [5] 3 13 c.workers (λj v u=>AD w.heap.size 3 u v ((List.range j).map λk=>(DG g c.workers s.held k:Int))/\AC w u) ⟨AD.nil _ _ _,stp⟩ ?_));rintro j v G u t ⟨O,e⟩;refine ite (λAY=>?_) (λf=>?_)
 ·have b:j<c.workers:=by omega
  refine Bv (S.fz.at (w':=u)).wk (x:=⟨K.sb j⟩) (by simp[b]) λy z h=>AF (h.cell0 rfl) (AA (zJY ((S.st.sto j b).up (w':=u))) ?_);rintro _ A ⟨rfl,C⟩;refine bS ((DG g c.workers s.held j:Nat):Int) λE l F _ o=>Ax (u:=w) ⟨rfl,rfl⟩ (O.up (w':=l)) o (by simp;omega) λH I p J L=>rA ⟨rfl,b,?_,stp⟩;rw[Jm,QB];exact p
 ·obtain rfl:j=c.workers:=by omega
  exact⟨O,e⟩
theorem GE.usedH(b:GE kx g c K wt hd lw lh lj s u):usedH lh=(Av s.held).map λk:Nat=>(k:Int):=by
 unfold Go.W.usedH IB Av;rw[b.lhn];congr 1;unfold Dj;refine List.filter_congr λk f=>?_;have f:=Q0.1 f;have h:k<lh.length:=by rw[b.lhn];exact f
 have:=b.helds k h (by rw[b.ljn];exact f);rw[Ph h]
 cases e:s.held.getD k none with
 |none=>rw[e]at this;simp only[Db]at this;simp[this]
 |some p=>obtain⟨d,i⟩:=p;rw[e]at this;simp[this.1]
theorem yG(S:BB R B w bs g c s):Sp PP 61 #[.pointer (some ⟨bs,0,none⟩)] w λv w'=>AD w.heap.size 3 w' v (Bg s.held)/\AC w w':=by
 obtain⟨K,wt,hd,lw,lh,lj,RW,S⟩:=S;have F:=S.small;have b:=S.fz.here;have H:=b.usedH;have I:=b.fh.len;have J:(Av s.held).length<=lh.length:=by rw[b.lhn];exact bL _ _
 refine eN ?_;refine Dy (rX S.cell rfl ?_);have D:=mN b.fh (by omega);rw[H]at D;refine AA D ?_;rintro v w1 ⟨z,W⟩;have h:=z.shape;obtain⟨X,Y,rfl⟩:=h;refine cO 14 [5] 3 14 (Av s.held).length (λj v u=>AD w1.heap.size 3 u v (((Av s.held).take j).map (OY s.held))/\AC w1 u) ⟨AD.nil _ _ _,stp⟩ ?_;rintro j v G u Z ⟨O,su⟩;have A:((Av s.held).map λk:Nat=>(k:Int)).length=(Av s.held).length:=by simp
 refine ite (λAY=>?_) (λL=>?_)
 ·have f:j<(Av s.held).length:=by omega
  have h:∃k,k=(Av s.held)[j]:=⟨_,rfl⟩;obtain⟨k,C⟩:=h;have t:k∈Av s.held:=by simp_all
  have h:=cU.1 t;obtain⟨l,o⟩:=h;have y:k<lh.length:=by rw[b.lhn];exact l
  have E:=b.helds k y (by rw[b.ljn];exact l);refine Bv (z.sl.up (w':=u)) (x:=(k:Int)) (by simp[f,C]) λb1 o1 M=>AF (M.cell0 rfl) (rX S.cell rfl (Bv (S.fz.at (w':=u)).fh (x:=lh[k]) (by simp) λb2 o2 N=>AF (N.cell 1 rfl) (HS lh[k].r.id rfl rfl (by decide) λb3 Q e3 _ T=>Ax (u:=w1) ⟨rfl,rfl⟩ (O.up (w':=Q)) T (by simp;omega) λv4 u4 U f4 s4=>rA ⟨rfl,f,?_,stp⟩)));rw[QO f,QB,<-C]
  have V:OY s.held k=lh[k].r.id:=by
   unfold OY
   cases e:s.held.getD k none with
   |none=>rw[e]at o;cases o
   |some p=>obtain⟨d,i⟩:=p;rw[e]at E;exact E.2.1.id.symm
  simp only[QS,JP,V];exact U
 ·obtain rfl:j=(Av s.held).length:=by omega
  rw[Qg,zPP]at O;exact⟨O.older,stp⟩
theorem zH8(S:BB R B w bs g c s):Sp PP 62 #[.pointer (some ⟨bs,0,none⟩)] w λv w'=>AD w.heap.size 3 w' v (Cn s.wait)/\AC w w':=by
 obtain⟨K,wt,hd,lw,lh,lj,RW,S⟩:=S;have p:=S.small;have d:=S.fz.here;have r:=d.fw.len;have e:=d.lwn;refine eN ?_;refine Dy (rX S.cell rfl (cO 13 [5] 3 13 lw.length (λj v u=>AD w.heap.size 3 u v ((s.wait.take j).map (·.id))/\AC w u) ⟨AD.nil _ _ _,stp⟩ ?_));rintro j v G u H ⟨O,t⟩;refine ite (λAY=>?_) (λy=>?_)
 ·have b:j<lw.length:=by omega
  refine Bv (S.fz.at (w':=u)).fw (x:=lw[j]) (by simp) λI J z=>Ai z rfl (Ap λA L n2 h=>rE h (lw[j]) λl f o _=>?_);have M:AC u l:=n2.st o;have f:Bk l A (enc lw[j]) 103:=f;clear h o;refine rX f rfl (HS lw[j].id rfl rfl (by decide) λN C Q _ E=>Ax (u:=w) ⟨rfl,rfl⟩ (O.up (w':=C)) E (by simp;omega) λT U F V W=>rA ⟨rfl,b,?_,stp⟩);rw[QO (by omega),QB];have:=(d.waits j b (by omega)).id;simp only[QS,JP,<-this];exact F
 ·obtain rfl:j=lw.length:=by omega
  rw[e,Qg]at O;exact⟨O,t⟩
theorem GE.free(f:GE kx g c K wt hd lw lh lj s u):IM lh=Hi s.held:=by
 have l:IM lh=(lh.map (·.used)).findIdx? λb=>!b:=by unfold IM;rw[VH];rfl
 have r:Hi s.held=(s.held.map (·.isSome)).findIdx? λb=>!b:=by unfold Hi;rw[VH];congr 1;funext o;cases o<;>rfl
 rw[l,r];congr 1;refine eH f.lhn λk t h=>?_;have:=f.helds k t (by rw[f.ljn];exact h);rw[Qk,Qd h,QP]at this
 cases e:s.held[k] with
 |none=>rw[e]at this;simpa[Db]using this
 |some p=>obtain⟨d,j⟩:=p;rw[e]at this;simpa using this.1
theorem zH9(S:BB R B w bs g c s)(hB:B<=w.heap.size):
  Sp PP 106 #[.pointer (some ⟨bs,0,none⟩)] w λ_ w'=>BB (gR R w w') B w' bs g c ⟨(BS s.wait s.held).1,(BS s.wait s.held).2⟩/\Fr R w w':=by
 refine eN ?_;have S0:BB (gR R w w) B w bs g c ⟨s.wait,s.held⟩:=CU.wide S (λi hi=>.inl hi) λi hi=>hi.elim ((CU.reg S).1 i) λh=>by omega
 refine Mx Aa 8 [2,3,4,5,6,7] (λi u=>∃l h,l.length=i/\BS l h=BS s.wait s.held/\BB (gR R w u) B u bs g c ⟨l,h⟩/\Fr R w u) rfl ⟨_,s.wait,s.held,rfl,rfl,S0,Fr.refl _ _⟩ ?_;rintro i G u ⟨l,h,hi,H,S,f⟩;clear S0;have z0:=f.size;have SP:=S;obtain⟨K,wt,hd,lw,lh,lj,RW,S⟩:=S;have O:=S.fz.here;have a8:=S.small;have p:=O.lwn;have a6:=O.fw.len;have b0:=S.reg _ S.rs;have b1:=S.reg _ S.rj;have z:=O.free;dsimp only at p z;refine rX S.cell rfl (AA (zLF O.fw (by omega)) ?_);rintro _ u1 ⟨⟨v1,rfl,W⟩,e1⟩;have s1:AC u u1:=⟨e1⟩;refine Ap λbx u2 n2 X2=>?_;have b2:=n2.lo (u:=u);have a7:=n2.lt;refine rE X2 ((IW lw).1) λu3 N f3 _=>?_;have N:Bk u3 bx (enc (IW lw).1) 103:=N;have s3:AC u1 u3:=n2.st f3;clear X2 f3;refine dQ 13 λu4 e4=>tX S.cell rfl nf (tG N ((IW lw).1) nf (AA (zLn (x:=(IW lw).1) (S.fz.at (w':=u4)).fh (by omega)) ?_));rintro _ b ⟨⟨v5,rfl,I⟩,e5⟩;refine⟨e5.e,?_⟩
 have out:BS l h=(l,h)->BB (gR R w b) B b bs g c ⟨(BS s.wait s.held).1,(BS s.wait s.held).2⟩/\Fr R w b:=λhe=>by
  rw[<-H,he];have h1:=lz u b;refine⟨CU.wide (BB.up (w':=b) SP) (λi hi=>hi.imp id λh=>by omega) λi hi=>?_,f.trans (fE u b)⟩;have Q:=(CU.reg SP).1;rcases hi with hi|hi
  ·have:=Q i (.inl hi);omega
  ·omega
 cases C:lw with
 |nil =>
  subst C;have a0:l=[]:=Qn (by simp_all);subst a0;exact out rfl
 |cons x r =>
  cases l with
  |nil=>rw[C]at p;simp at p
  |cons d l =>
  rw[C]at W I N;dsimp only[IW]at W I N ⊢;unfold MF at I ⊢;rw[z]at I ⊢
  cases T:Hi h with
  |none =>
   dsimp only;refine iT (by simp) (out ?_);unfold BS;rw[T]
  |some k =>
   have J:=iP T;obtain⟨L,hn⟩:=J;rw[T]at I;dsimp only at I ⊢;refine iF (· rfl) ?_;have a1:k<lj.length:=by rw[O.ljn];exact L
   have hV:Fz (Cr bs K.bj c.workers RW) (gR R w u) u λu'=>MV u' x d:=S.fz.imp λu' y=>by
    have:=y.waits 0 (by rw[C];simp) (by simp);simp only[C,Vb]at this;exact this
   have V5:=hV.at (w':=b);have U:=S.so.wait d (by simp);have ok:=zNF S.ci S.so T;have J:=W.shape;obtain⟨X,Y,rfl⟩:=J;have J:=I.shape;obtain⟨a5,c5,rfl⟩:=J;refine rS S.cell [.slice X r.length Y] (Gs _ _ _) λu6 C6 f6 _=>?_;have C6:Bk u6 bs (Io c K ⟨X,r.length,Y⟩ hd) 158:=C6;refine rS C6 [.slice a5 (lh.set k ⟨true,x⟩).length c5] (Gs _ _ _) λA Z f7 _=>?_;have Z:Bk A bs (Io c K ⟨X,r.length,Y⟩ ⟨a5,(lh.set k ⟨true,x⟩).length,c5⟩) 158:=Z;have t:Fr (λi=>i=bs) b A:=f6.trans f7;have b3:=t.size;have z5:=lz u b;have z3:=lz u3 b;have V:Fr (Cr bs K.bj c.workers RW) b A:=t.mono λi _ hi=>.inl hi;have X7:=(N.mv (w:=b)).fr t (by omega);have J7:=(S.jobs.up (w':=b)).fr t λg _ hg h=>by cases hg;exact S.ne h.symm
   have T7:=(S.st.up (w':=b)).away t λk L i hi h=>(S.rw k L i hi).2.1 h;have Z5:=((S.fz1 (w':=b)).and ((S.fzO (w':=b) (W.up (w':=b)) (Qe _)).and (S.fzO I (lz u u4))));have Z7:Fz (Cr bs K.bj c.workers RW) (gR (gR R w u) u A) A _:=Z5.step V (λ_ _ h=>h) λi _ h=>h.imp id λh=>by omega
   have M:MV A x d:=hV A (((fE u b).trans V).mono λi _ h=>.inl h);refine dD (λi=>i=K.bj) (Hn 12 0) λu8 e8=>tX Z rfl (λh=>S.ne h) (tG X7 x.q (by omega) (AA (zJR (g:=g) (q:=d.q) (slot:=(k:Int)) ⟨M.q.kind,M.q.frm,M.q.to⟩ U.q.ok) ?_));rintro v9 v ⟨O9,e9⟩;refine⟨Fr.fr e9.e,?_⟩;have J:=O9.shape;obtain⟨a9,c9,rfl⟩:=J;refine As (cs:=enc (⟨⟨a9,(Cf g d.q k 0).length,c9⟩,0⟩:FK)) rfl ?_;have J9:=J7.up (w':=v);refine ET rfl J9 (x:=lj[k]) (by simp) λgj hgj _ _=>CZ rfl (⟨⟨a9,(Cf g d.q k 0).length,c9⟩,0⟩:FK) J9 hgj a1 rfl λF a4 o _=>?_;have o:Fr (λi=>i=K.bj) v F:=o.mono λi _ hi=>cR hi;refine⟨o,?_⟩;have z9:=lz A v;have Z9:=(Z7.step (M':=Cr bs K.bj c.workers RW) (R':=gR (gR R w u) u v) (w':=v) (fE A v) (λ_ _ h=>h) (λi _ h=>h.imp id λh=>by omega)).and (S.fzO (w':=v) O9 (by have:=lz A u8;omega))
   have Zn:Fz (Cr bs K.bj c.workers RW) (gR (gR R w u) u v) v (GE 1000 g c K ⟨X,r.length,Y⟩ ⟨a5,(lh.set k ⟨true,x⟩).length,c5⟩ r (lh.set k ⟨true,x⟩) (lj.set k ⟨⟨a9,(Cf g d.q k 0).length,c9⟩,0⟩) ⟨l,h.set k (some (d,0))⟩):=
    Z9.imp λu' ⟨⟨y,Sw,Sh⟩,Sm⟩=>by
     have p:=y.lwn;refine⟨y.rows,y.pos,y.words,y.wk,Sw,Sh,?_,λi h1 Q=>?_,by simp[y.lhn],by simp[y.ljn],zNS L y.helds ⟨rfl,?_,λ_=>⟨Sm,rfl⟩⟩⟩
     ·rw[C]at p;simpa using p
     ·have:=y.waits (i+1) (by rw[C];simpa using h1) (by simpa using Q);simp only[C,List.getElem_cons_succ]at this;exact this
     ·have:=y.waits 0 (by rw[C];simp) (by simp);simp only[C,Vb]at this;exact this
   have fin:=S.fin (w1:=v) (w':=F) (s':=⟨l,h.set k (some (d,0))⟩) (by omega) (o.mono λi _ h=>.inr (.inl h)) (Qw hB z0) ((Z.mv (w:=v)).fr o S.ne) a4 (((T7.up (w':=v)).away o λk L i hi h=>(S.rw k L i hi).2.2 h)) (.refl _) ok Zn;have b4:=o.size
   have hm:Fr R w F:=by
    refine f.join (E:=gR R w u) (D:=R) (((fE u b).trans (t.mono λi _ h=>h ▸ S.rs)).trans ((fE A v).trans (o.mono λi _ h=>h ▸ S.rj))) (λ_ _ h=>h) λi hi h=>h.elim id λh=>by omega
   refine⟨l.length,by rw[<-hi];simp,l,h.set k (some (d,0)),rfl,?_,?_,hm⟩
   ·rw[<-H]
    conv=>rhs;unfold BS
    rw[T]
   ·have e2:FA g c.workers h=FA g c.workers (h.set k (some (d,0))):=(zQ1 L hn d).symm;dsimp only at fin;rw[e2]at fin;refine CU.wide (R:=gR (gR R w u) u F) ⟨K,_,_,_,_,_,RW,fin⟩ (aJ z0 (by omega)) λi hi=>?_
    ·have Q:=(CU.reg SP).1;rcases hi with hi|hi
     ·have:=Q i (.inl hi);omega
     ·omega
end
section
variable {kx:Nat} {R:Nat->Prop} {B:Nat} {w0 w w':World} {bs:Nat} {g:An} {c:DN} {s:ES} {Ls:Nat->List AN} {K:He} {wt hd:SV} {lw:List Ay} {lh:List BC} {lj:List FK} {RW:Nat->Nat->Prop}
theorem xV{a b:AN}{w:World}:Sp PP 249 #[agg a,agg b] w λv w'=>v=.int .i64 (UB a b)/\Gw w w':=by
 refine eN ?_;refine BM λp w1 n1 d=>BM λbb w2 n2 f=>HO Aa mixed (λ_=>False) (.one 0 (.one 1 (.one 2 (.one 3 (.one 4 (.one 5 (.one 7 (.one 8 (.one 9 (.one 10 (.one 11 (.one 12 (.one 6 (.one 13 (.one 14 (.one 15 (.one 16 .nil))))))))))))))))) (by kernel_rfl) λr t l=>?_;refine tX d rfl nf (tX f rfl nf ?_);refine tX d rfl nf (tX f rfl nf ?_);refine AA Ms ?_;rintro v x ⟨rfl,rfl⟩;refine⟨Fr.refl _ _,?_⟩;refine AA Ms ?_;rintro v y ⟨rfl,rfl⟩;refine⟨Fr.refl _ _,?_⟩;refine OZ [Bl a.key.dir b.key.dir,Bl a.key.v b.key.v] rfl (vs:=[.int .i64 (Bl a.key.dir b.key.dir),.int .i64 (Bl a.key.v b.key.v)]) rfl rfl (by decide) λz A h o=>⟨h.e,?_⟩;refine AA (XW o (by simp)) ?_;rintro v C ⟨rfl,rfl⟩;refine⟨Fr.refl _ _,?_⟩;exact⟨rfl,n1.gw.trans (n2.gw.trans (l.trans h.gw))⟩
theorem zL6{l':List AN}{o:Option (Bt×Nat)}(h:l'.Perm (Hj g o k))(p:l'.Pairwise λa b=>¬UB b a<0):l'=Hj g o k:=by
 have M:=bW g o k;refine CE.uniq ?_ M λx=>h.mem_iff;have d:l'.Nodup:=h.nodup_iff.2 M.nodup;rw[Qx]at d;refine Vv (λ{a b} r hb l=>?_) (p.and d);have e:=h.mem_iff.1 r;have f:=h.mem_iff.1 hb;have t:=UG e;have v:=UG f;refine ZY (λy=>l.1 ((jJ _ _).2 ?_)) (λz=>l.2 (M.inj e f z.symm));unfold Bw at y;omega
theorem BB.lens(S:BB R B w bs g c s):∀k,k<c.workers->(FA g c.workers s.held k).length<=c.pool:=λk b=>by
 obtain⟨K,wt,hd,lw,lh,lj,RW,S⟩:=S;exact(S.st.sto k b).lt.2.2.2.1
theorem vG{k0:Nat}(S:BB R B w bs g c s)(z:k0<s.held.length):
  Sp PP 174 #[.pointer (some ⟨bs,0,none⟩),.int .i64 (k0:Int)] w λv w'=>AD w.heap.size 341 w' v (Hj g (s.held.getD k0 none) k0)/\AC w w':=by
 have b:=S.lens;obtain⟨K,wt,hd,lw,lh,lj,RW,S⟩:=S;have T:=S.ci.workers;have A:=S.ci.pool;have C:=S.fz.here.wkn
 have e:∀j,j<=c.workers->((List.range j).flatMap λk=>N1 (FA g c.workers s.held k) (k0:Int)).length<=j*400:=by
  intro j
  induction j with
  |zero=>intro _;simp
  |succ j E =>
   intro p;have t:=E (by omega);rw[Jm,Jl,Qb];have F:(N1 (FA g c.workers s.held j) (k0:Int)).length<=(FA g c.workers s.held j).length:=Qv _ _;have H:=b j (by omega);simp only[JV,XM,QE];rw[Jo];omega
 refine eN ?_;refine rX S.cell rfl (cO 14 [7,8] 5 14 c.workers (λj v u=>AD w.heap.size 341 u v ((List.range j).flatMap λk=>N1 (FA g c.workers s.held k) (k0:Int))/\AC w u) ⟨AD.nil _ _ _,stp⟩ ?_);rintro j v G u p ⟨O,U⟩;refine ite (λAY=>?_) (λI=>?_)
 ·have d:j<c.workers:=by omega
  refine Bv (S.fz.at (w':=u)).wk (x:=⟨K.sb j⟩) (by simp[d]) λV X J=>AF (J.cell0 rfl) (AA (zL5 (s:=(k0:Int)) ((S.st.sto j d).up (w':=u))) ?_);rintro Y h ⟨l,Z⟩;have t:=e j p;have F:(N1 (FA g c.workers s.held j) (k0:Int)).length<=(FA g c.workers s.held j).length:=Qv _ _;have H:=b j (by omega);refine NI (u:=w) ⟨rfl,rfl⟩ (O.up (w':=h)) l.sl (by omega) λv2 u2 L f2 s2=>rA ⟨rfl,d,?_,stp⟩;rw[Jm,Jl];simp only[JV,XM,QE];exact L
 ·obtain rfl:j=c.workers:=by omega
  have t:=e c.workers (Qe _);refine AA (W1 Tryz.sortS (k:=4) (show FZ PP 341 4 from inferInstance) rfl UB rB (f:=245) rfl (λx y W=>xV) O (by omega)) ?_;rintro r h ⟨rfl,l',M,N,l,Q⟩;have s1:Gl w u h:=Mu Q;have o:=zL6 (M.trans (WT z (by omega))) N;rw[<-o];exact⟨l,stp⟩
theorem wM{k0:Nat}{t:Bt}{C:Nat}{e:TypeId}{n':Nat}(S:Co 1000 R B w bs g c s (FA g c.workers s.held) K wt hd lw lh lj RW)(hB:B<=w.heap.size)(hu:s.held.getD k0 none=some (t,i))(O:AD C e w (.slice a n n') (sts g t.q k0 (i+1)))(hC:∀i,R i->i<C):
  Sp PP 175 #[.pointer (some ⟨bs,0,none⟩),.slice a n n'] w λv w'=>(∃b Ls d,v=.bool b/\Co 1000 (gR R w w') B w' bs g c s Ls K wt hd lw lh lj d/\Ev c.workers RW d w.heap.size/\CX g c (DV s.held k0 t i) = !b/\Lo g c.workers s.held k0 Ls/\(b=true->Ls=FA g c.workers (DV s.held k0 t i)))/\Fr (Gr c.workers RW) w w':=by
 have E:=PR hu;obtain⟨r,hm⟩:=E;have a9:=S.so.len;have F:=(S.so.held t i hm).1;have a0:=S.gi.ok.n2;have hW:=S.ci.workers;have b0:=S.ci.slots;have b3:=S.fz.here.wkn;have b4:=O.sl.len
 have b5:(sts g t.q k0 (i+1)).length<=400:=by
  rw[sT];have:=MH (dir:=0) F.q.ok (i+1);have:=MH (dir:=1) F.q.ok (i+1);omega
 have a1:=S.reg _ S.rs;have b6:=S.reg _ S.rj
 have fin:∀{u:World} {d:Nat->Nat->Prop} {Ls:Nat->List AN},EI B u c.workers K c.pool d Ls->Ev c.workers RW d w.heap.size->Fr (Gr c.workers RW) w u->Co 1000 (gR R w u) B u bs g c s Ls K wt hd lw lh lj d:=λ{u d Ls} T A f=>by
  have a4:¬Gr c.workers RW bs:=λ⟨k,r,h⟩=>(S.rw k r _ h).2.1 rfl;have a5:¬Gr c.workers RW K.bj:=λ⟨k,r,h⟩=>(S.rw k r _ h).2.2 rfl;exact S.fin (w1:=w) (Qe _) (f.mono λi _ h=>Vg h) hB (S.cell.fr f a4) (S.jobs.fr f λg _ hg h=>by cases hg;exact a5 h) T A S.so (S.fz1 (w':=w))
 refine eN ?_
 refine cN 12 [4,6,7,8,9] 12 (sts g t.q k0 (i+1)).length (λj u=>∃d Ls',EI B u c.workers K c.pool d Ls'/\Ev c.workers RW d w.heap.size/\Fr (Gr c.workers RW) w u/\Gi g c.workers s.held (sts g t.q k0 (i+1)) j Ls')
  ⟨RW,_,S.st,.refl _,Fr.refl _ _,zK _⟩ ?_
 rintro j G u hj ⟨d,Ls',T,A,f,H⟩;refine ite (λAY=>?_) (λb7=>?_)
 ·have I:j<(sts g t.q k0 (i+1)).length:=by omega
  have E:∃x,(sts g t.q k0 (i+1))[j]=x:=⟨_,rfl⟩;obtain⟨x,hx⟩:=E;have Q:x∈sts g t.q k0 (i+1):=hx ▸ Qa I;have U:=eK F.q.ok a0 (by omega) Q;have hv:=WA (g:=g) (o:=some (t,i+1)) (k:=k0) Q;have a6:=lF (W:=c.workers) (v:=x.key.v) (by omega);have E:∃p:Nat,Dt c.workers x.key.v=(p:Int):=⟨(Dt c.workers x.key.v).toNat,by omega⟩;obtain⟨p,hp⟩:=E;have y:p<c.workers:=by omega
  have Ou:=O.fr f λb hb _ ⟨k,r,h⟩=>by have:=hC b (S.rw k r b h).1;omega
  refine Bv Ou.sl (x:=x) (by simp_all) λb1 o1 A1=>Ai A1 rfl (Ap λbx u2 n2 X2=>?_);have b8:=n2.lo (u:=u);refine rE X2 x λu3 X f3 _=>?_;have X:Bk u3 bx (enc x) 341:=X;have s3:AC u u3:=⟨Fr.st Le.e f3 λi hi=>by omega⟩;clear X2 f3;have zf:=f.size;have Cu:=S.cell.fr f λ⟨k,r,h⟩=>(S.rw k r _ h).2.1 rfl;refine dQ 14 λu4 e4=>tX X rfl nf (tX Cu rfl nf ?_);refine AA (iN (v:=x.key.v) (W:=c.workers)) ?_;rintro _ u5 ⟨rfl,rfl⟩
  have e5:Ma c.workers x.key.v=.tuple #[.int .i64 (p:Int),.bool true]:=by
   rw[<-hp];exact if_pos ⟨hv,by omega⟩
  rw[e5];refine⟨Fr.refl _ _,?_⟩;have nD:∀b,b<w.heap.size->¬Gr c.workers RW b->¬Gr c.workers d b:=λb hb hn ⟨k,r,h⟩=>(A k r b h).elim (λz=>hn ⟨k,r,z⟩) λz=>by omega
  refine dD (Gr c.workers d) (Hn 10 0) λJ e6=>tX Cu rfl (nD _ a1.2 λ⟨k,r,h⟩=>(S.rw k r _ h).2.1 rfl) (eI (l:=(List.range c.workers).map λk=>(⟨K.sb k⟩:KJ)) (x:=⟨K.sb p⟩) (λw' f'=>?_) (by simp[y]) λb2 o2 A2=>TG A2 ?_)
  ·exact(S.fz w' ((f.join ((Fr.fr (D:=Gr c.workers d) (lE u J)).trans f') (λ_ _ h=>h) λi hi ⟨k,r,h⟩=>(A k r i h).elim (λz=>⟨k,r,z⟩) λz=>by omega).mono λi _ h=>.inl (Vg h))).wk
  refine tG X x (λ⟨k,r,h⟩=>by have:=T.lt k r _ h;omega) (AA (zLs (x:=x) ((T.sto p y).up (w':=J))) ?_);rintro _ u7 ⟨rfl,S7,_,f7⟩;refine⟨f7.mono λi _ h=>⟨p,y,h⟩,?_⟩;have T6:=T.up (w':=J);have T7:=T6.put y S7 f7;have z6:=lz u J;have L:Ev c.workers RW (GK d p (gR (d p) J u7)) w.heap.size:=A.put (by omega);have f6:Fr (Gr c.workers RW) w J:=f.trans (fE u J);have M:=A.fr f6 y f7;have E:=H.put hu I hx U.1 (n:=c.pool) hp;rcases E with⟨z,V,h3⟩|⟨z,V⟩
  ·refine iT z ?_;have Y:=fin T7 L M;have N:CX g c (DV s.held k0 t i) = !false:=ZD.2 ⟨p,y,h3⟩
   have Z:I8 Ls' p (EP c.pool (Ls' p) x).1=Ls':=by
    funext k;unfold I8;split
    ·rename_i a7;rw[V,a7]
    ·rfl
   rw[Z]at Y;exact⟨⟨false,Ls',_,rfl,Y,L,N,H.but,λh=>by cases h⟩,M⟩
  ·refine iF z ?_;exact rA ⟨rfl,I,_,_,T7,L,M,V⟩
 ·have a8:j=(sts g t.q k0 (i+1)).length:=by omega
  subst a8;have Z:=H.end hu;have Y:=fin T A f
  have N:CX g c (DV s.held k0 t i) = !true:=by
   show _=false;rw[<-Vy,ZD];rintro⟨k,r,z⟩;have V:=(T.sto k r).lt.2.2.2.1;rw[Z,sY]at V;omega
  exact⟨⟨true,Ls',_,rfl,Y,A,N,H.but,λ_=>Z⟩,f⟩
end
section
variable {kx:Nat} {R:Nat->Prop} {B:Nat} {w0 w w':World} {bs:Nat} {g:An} {c:DN} {s:ES} {Ls:Nat->List AN} {K:He} {wt hd:SV} {lw:List Ay} {lh:List BC} {lj:List FK} {RW:Nat->Nat->Prop}
theorem vF{b:Hs}{k0:Nat}{f:FK}{d:Bt}{o:Nat}(r:k0<b.length)(e:b.getD k0 none=some (d,i))(H:∀k (h:k<lh.length) (t:k<lj.length),Db 1000 u g lh[k] lj[k] (b.getD k none) k)(h:AQ u f.mails.v (Cf g d.q k0 o)/\f.steps=o):
  ∀k (h:k<lh.length) (t:k<(lj.set k0 f).length),Db 1000 u g lh[k] (lj.set k0 f)[k] ((b.set k0 (some (d,o))).getD k none) k:=λk x y=>by
 have l:=H k x (by simpa using y);rw[RF r];by_cases p:k=k0
 ·subst p;rw[if_pos rfl,JX];rw[e]at l;exact⟨l.1,l.2.1,λ_=>h⟩
 ·rw[if_neg p,JT (Jq p)];exact l
theorem nW{e:Hs}{k0:Nat}{l:FK}(x:lh.length<=64)(H:∀k (h:k<lh.length) (r:k<lj.length),Db 1000 u g lh[k] lj[k] (e.getD k none) k):
  ∀k (h:k<lh.length) (r:k<(lj.set k0 l).length),Db k0 u g lh[k] (lj.set k0 l)[k] (e.getD k none) k:=λk t v=>by
 have b:=H k t (by simpa using v)
 cases o:e.getD k none with
 |none=>rw[o]at b;exact b
 |some p =>
  obtain⟨d,i⟩:=p;rw[o]at b;refine⟨b.1,b.2.1,λf=>?_⟩;rw[JT (Jq f)];exact b.2.2 (by omega)
def Zt (R : Nat -> Prop) (B : Nat) (bs : Nat) (g : An) (c : DN) (s : ES) (k0 : Nat) (w : World) (v : Value) (w' : World) : Prop :=
  (∃ (y : CG) (all : Bool), v = .tuple #[agg y, .bool all] /\
    ((all = true /\ ∃ p Ls K wt hd lw lh lj RW, Cj g c s.held k0 = some p /\ y.id = p.1 /\ y.code = p.2.1 /\ y.a.found = p.2.2.found /\ y.a.num = p.2.2.num /\ Fz (Cr bs K.bj c.workers RW) (gR R w w') w' (λu => AQ u (.slice y.a.s.a y.a.s.n y.a.s.c) p.2.2.hits) /\
        Co k0 (gR R w w') B w' bs g c s Ls K wt hd lw lh lj RW /\ Lo g c.workers s.held k0 Ls /\ (Ah g c s.held k0).1 = s.held.set k0 none) \/
     (all = false /\ Cj g c s.held k0 = none /\ BB (gR R w w') B w' bs g c ⟨s.wait, (Ah g c s.held k0).1⟩))) /\ Fr R w w'
def EG (id code:Int):CG:=⟨id,code,⟨false,0,⟨none,0,0⟩⟩⟩
theorem Tq{k0:Nat}{b:Bt}(d:k0<s.held.length):Lo g c.workers s.held k0 (FA g c.workers (DV s.held k0 b i)):=λk=>⟨TE ..,λx e=>by rw[N7,N7,ZL d e]⟩
theorem zIN{k0:Nat}{C:Bt}{c3:Nat}(S:BB R B w bs g c s)(hB:B<=w.heap.size)(hu:s.held.getD k0 none=some (C,i))(h3:AQ w (.slice a3 n3 c3) ps):
  Sp PP 108 #[.pointer (some ⟨bs,0,none⟩),.int .i64 (k0:Int),.slice a3 n3 c3] w (Zt R B bs g c s k0 w):=by
 have SP:=S;obtain⟨K,wt,hd,lw,lh,lj,RW,S⟩:=S;have F:=PR hu;obtain⟨hk,hm⟩:=F;have F0:=S.fz.here;have p2:=S.so.len;have g0:=(S.so.held C i hm).1;have p5:=(S.so.held C i hm).2;have m3:=S.gi.ok.n2;have hW:=S.ci.workers;have p6:=S.ci.slots;have p7:=S.ci.budget;have g4:=S.gi;have p8:=S.ps;have k1:k0<lh.length:=by rw[F0.lhn];exact hk
 have g5:k0<lj.length:=by rw[F0.ljn];exact hk
 have m4:=F0.helds k0 k1 g5;rw[hu]at m4;obtain⟨o0,b7,g6⟩:=m4;have g6:=g6 (by omega);have j5:=g6.2;have p9:=F0.wkn;have q0:=F0.fh.len;have b5:=SP.lo
 have c9:∀{j:Nat} {x:AN},x∈sts g C.q k0 j->Dz x/\x.key.v<g.n/\0<=x.d/\x.d<g.n:=λ{j x} hx=>by
  have:=eK g0.q.ok m3 (by omega) hx;exact⟨this.1,this.2.1,this.2.2.1,this.2.2.2.1⟩
 have j6:∀{j:Nat} {x:AN},x∈Cf g C.q k0 j->Dz x/\x.key.v<g.n/\0<=x.d/\x.d<g.n:=λ{j x} hx=>pL g0.q.ok m3 (by omega) hx
 have g7:∀j,(sts g C.q k0 j).length<=400:=λj=>by
  rw[sT];have:=MH (dir:=0) g0.q.ok j;have:=MH (dir:=1) g0.q.ok j;omega
 have j7:∀j,(Cf g C.q k0 j).length<=400:=λj=>by
  have h1:=g7 (j+1);have h2:=(bD (Cf g C.q k0 j) (sts g C.q k0 j)).length_eq;have h4:sts g C.q k0 (j+1)=EJ (Cf g C.q k0 j) (sts g C.q k0 j):=rfl;rw[<-h4,Qb]at h2;omega
 have j9:=zPK (g:=g) (q:=C.q) (slot:=(k0:Int)) g4.ok i;have F:∃rr,lh[k0]? = some rr:=⟨lh[k0],Qd k1⟩;obtain⟨rr,o1⟩:=F;have F:∃jj,lj[k0]? = some jj:=⟨lj[k0],Qd g5⟩;obtain⟨jj,o2⟩:=F;have er:lh[k0]=rr:=by simp_all
 have ej:lj[k0]=jj:=by simp_all
 rw[er]at o0 b7;rw[ej]at g6 j5;have n9:jj.mails.n=(Cf g C.q k0 i).length:=AQ.len (a:=jj.mails.a) (c:=jj.mails.c) g6.1
 have f9:Fz (Cr bs K.bj c.workers RW) R w λu=>MV u rr.r C/\AQ u jj.mails.v (Cf g C.q k0 i):=S.fz.imp λu I=>by
  have:=I.helds k0 k1 g5;rw[hu,er,ej]at this;exact⟨this.2.1,(this.2.2 (by omega)).1⟩
 have m5:=(S.reg _ S.rj).2;have p3:=(S.reg _ S.rs).2;refine eN ?_;refine Ap λb6 w1 n1 Y1=>?_;have j8:=n1.lo (u:=w);have p4:=n1.lt;have m6:=F0.fh.lt (λh=>by simp_all);refine dT (λi=>w.heap.size<=i) (oL [0,1,2,3,4,5,6,7,8,9,10,11,12,13,14] (.two 15 (oL [16,17,18] .nil) 16 (oL [15,17,18] .nil))) λw2 e2=>tX S.cell rfl (by omega) (CL (S.fz.at (w':=w2)).fh o1 λb o A hb=>Ch (cs:=enc rr.r) (A.sub 1 8) (AK.len _) ?_ ?_)
 ·obtain⟨b',h1,h2⟩:=m6;rw[hb]at h1;cases h1;omega
 refine tX S.cell rfl (by omega) (CL (S.jobs.up (w':=w2)).sl o2 λb o A hb=>Ch A (AK.len _) ?_ ?_)
 ·cases hb;exact Nat.not_le.2 m5
 refine⟨?_,?_⟩
 ·refine Ap λbx w3 n3 X3=>⟨Fr.fr n3.e,?_⟩;refine Ap λbJ w4 n4 g8=>⟨Fr.fr n4.e,?_⟩;have g9:=n3.lo (u:=w);have e0:=n4.lo (u:=w);have m7:=n3.lo (u:=w1);have m8:=n4.lo (u:=w1);have d4:¬bJ=bx:=by have:=n4.b;have:=n3.lt;omega
  have X4:=X3.mv (w:=w4);refine rS X4 (enc rr.r) (AK.one _) λw5 X5 f5 _=>?_;have X5:Bk w5 bx (enc rr.r) 103:=X5;have s5:AC w1 w5:=⟨Fr.st (lE w1 w4) f5 λi hi=>by omega⟩;have h0:=g8.fr f5 d4;refine⟨f5.mono λi _ hi=>by omega,?_⟩;refine rS h0 (enc jj) (AK.one _) λw6 e1 f6 _=>?_;have e1:Bk w6 bJ (enc jj) 258:=e1;have s6:AC w1 w6:=⟨Fr.st s5.e f6 λi hi=>by omega⟩;have X6:=X5.fr f6 (λh=>d4 h.symm);refine⟨f6.mono λi _ hi=>by omega,?_⟩;clear X4 g8 X5 h0;refine rX X6 rfl (AJ (cs:=enc (EG rr.r.id 0)) rfl (Ap λa5 w7 n7 Y7=>?_));have h5:=n7.lo (u:=w);have m9:b6<a5:=by have:=n7.b;have:=lz w1 w6;omega
  refine rS Y7 (enc (EG rr.r.id 0)) (AK.one _) λw8 Y8 f8 _=>?_;have Y8:Bk w8 a5 (enc (EG rr.r.id 0)) 173:=Y8;have s8:AC w6 w8:=⟨Fr.st (lE w6 w7) f8 λi hi=>by have:=n7.b;omega⟩;clear Y7 f8;have X8:=X6.mv (w:=w8);have e3:=e1.mv (w:=w8);refine dD (λ_=>False) [0,1,2,3,4,5,6,7,9,10,11,12,13,14,15,16,8,17,18,19,20,21,22,23,24] λw9 e9=>tG X8 rr.r.q nf (tG S.cell K.xr nf (tX e3 rfl nf (tX S.cell rfl nf ?_)));refine AA (vG (BB.up (w':=w9) SP) hk) ?_;rintro _ d0 ⟨b8,h6⟩;rw[hu]at b8;have b8:AD w9.heap.size 341 d0 _ (sts g C.q k0 i):=b8;have F:=b8.shape;obtain⟨sa,sc,rfl⟩:=F;refine⟨h6.e,?_⟩;have Fu:=S.fz.at (w':=d0);have hV:=(f9.at (w':=d0));have D:=oQ (W:=c.workers) (xq:=rr.r.q) (S:=sts g C.q k0 i) (M:=Cf g C.q k0 i) g4 Fu.rows ⟨hV.1.q.kind,hV.1.q.rad⟩ b8.sl hV.2 (h3.up (w':=d0)) hW (hU i) (λx hx=>⟨(c9 hx).1,(c9 hx).2.1⟩) (λx hx=>⟨(j6 hx).1,(j6 hx).2.1⟩) (by have:=g7 i;omega) (j7 i);rw[j9]at D;refine AA D ?_;rintro _ T ⟨⟨v1,v2,rfl,b9,c0⟩,h7⟩;dsimp only at b9 c0;refine⟨h7.e,?_⟩;have F:=b9.shape;obtain⟨h8,h9,rfl⟩:=F;have F:=c0.shape;obtain⟨d1,d2,rfl⟩:=F;refine iF (· rfl) ?_;have z9:=lz w w9;have o3:=h6.e.size;have o4:=h7.e.size;have ly:=(Y8.mv (w:=w9)).lt;have lq:=(Y1.mv (w:=w9)).lt;have lx:=(X8.mv (w:=w9)).lt;have lJ:=(e3.mv (w:=w9)).lt;refine AA (wM (S.up (w':=T)) (Qw hB (lz w T)) hu b9 (λi hi=>by have:=b5 i hi;omega)) ?_;rintro _ t ⟨⟨b,Ls,U,rfl,V,k2,k3,i0,i1⟩,d5⟩;have a0:Fr R T t:=d5.mono λi _ ⟨k,hk,h⟩=>(S.rw k hk i h).1;have k4:Fr (Cr bs K.bj c.workers RW) w t:=(fE w T).trans (d5.mono λi _ h=>Vg h);have a6:∀{b:Nat},w.heap.size<=b->¬R b:=λ{b} hb h=>by have:=b5 b h;omega
  have i2:=(Y8.mv (w:=T)).fr a0 (a6 h5);have i3:=(Y1.mv (w:=T)).fr a0 (a6 j8);have k5:=(X8.mv (w:=T)).fr a0 (a6 g9);have d6:=(e3.mv (w:=T)).fr a0 (a6 e0);have k6:=b9.fr a0 λb hb _=>a6 (by omega);have i4:=c0.fr a0 λb hb _=>a6 (by omega);have o5:=a0.size;have d7:Fr R w t:=(fE w T).trans a0;have J:CX g c (s.held.set k0 (some (C,i+1))) = !b:=k3
  cases b with
  |false =>
   have F:=qT hu J;obtain⟨q1,q2⟩:=F;refine rS i2 [.int .i64 250] (HT _) λX e4 i5 _=>?_;have e4:Bk X a5 (enc (EG rr.r.id 250)) 173:=e4;have k7:=i3.fr i5 (by omega);refine rG e4 (EG rr.r.id 250) (rS k7 (enc (EG rr.r.id 250)) (AK.one _) λl b3 N _=>?_);have b3:Bk l b6 (enc (EG rr.r.id 250)) 173:=b3;refine AR (B:=b3) rfl ?_;have p:Fr (λi=>w.heap.size<=i/\i<w9.heap.size) t l:=(i5.mono λi _ hi=>by omega).trans (N.mono λi _ hi=>by omega);have c1:Fr R w l:=d7.join p (λ_ _ h=>h) λi hi h=>by omega
   have k8:=p.size
   have k9:=(V.away p (λi hi h=>by rcases h with h|h;exact a6 hi.1 h;omega)).wide (R':=gR R w l) (λi hi=>hi.imp id λh=>by omega) λi hi=>by
    have:=(CU.reg SP).1;rcases hi with hi|hi
    ·have:=this i hi;omega
    ·omega
   exact⟨⟨EG rr.r.id 250,true,rfl,.inl ⟨rfl,_,Ls,K,wt,hd,lw,lh,lj,U,q1,b7.id,rfl,rfl,rfl,(λu _=>AQ.nil u),k9.loose k0,i0,q2⟩⟩,c1⟩
  |true =>
   have l0:=i1 rfl;subst l0;have d8:=(CU.reg SP).1
   have l1:∀i,Cr bs K.bj c.workers U i->Cr bs K.bj c.workers RW i\/T.heap.size<=i:=λi h=>by
    rcases h with h|h|⟨k,hk,h⟩
    ·exact .inl (.inl h)
    ·exact .inl (.inr (.inl h))
    ·exact(k2 k hk i h).imp (λh1=>.inr (.inr ⟨k,hk,h1⟩)) id
   have V:=V.wide (R':=gR R w9 t) (λi hi=>hi.imp id λh=>by omega) λi hi=>by
    rcases hi with hi|hi
    ·have:=d8 i hi;omega
    ·omega
   have F2:=V.fz.here;have n0:k0<lj.length:=by omega
   have l2:lh.length<=64:=by rw[F2.lhn];omega
   have c2:∀{b:Nat},w.heap.size<=b->¬b=K.bj:=λ{b} h1 h=>by omega
   have F:∃nj:FK,nj=⟨⟨d1,(Cf g C.q k0 (i+1)).length,d2⟩,((i+1:Nat):Int)⟩:=⟨_,rfl⟩;obtain⟨nj,e5⟩:=F;refine dD (λi=>i=K.bj) (Hn 12 0) λX o6=>tX V.cell rfl (λh=>V.ne h) (tX d6 rfl (c2 e0) (IV (y:=((i+1:Nat):Int)) (by omega) (by omega) (As (cs:=enc nj) (by rw[e5];rfl) ?_)));have i6:=V.jobs.up (w':=X);refine ET rfl i6 (x:=lj[k0]) (by simp) λgj hgj _ _=>CZ rfl nj i6 hgj g5 rfl λl i7 N _=>?_;have N:Fr (λi=>i=K.bj) X l:=N.mono λi _ hi=>cR hi;refine⟨N,?_⟩;have i8:=(i2.mv (w:=X)).fr N (c2 h5);have b3:=(i3.mv (w:=X)).fr N (c2 j8);have l3:=(k5.mv (w:=X)).fr N (c2 g9);have d9:=(d6.mv (w:=X)).fr N (c2 e0);have c4:=(V.cell.mv (w:=X)).fr N V.ne;have p:Fr (λi=>i=K.bj) t l:=(fE t X).trans N;have a7:Fr (Cr bs K.bj c.workers U) t l:=p.mono λi _ h=>.inr (.inl h)
   have l4:AQ l (.slice h8 (sts g C.q k0 (i+1)).length h9) (sts g C.q k0 (i+1)):=by
    by_cases hl:sts g C.q k0 (i+1)=[]
    ·rw[hl];exact AQ.nil' _ _ _
    ·have F:=b9.lt hl;obtain⟨gq,g1,g2,g3⟩:=F;exact k6.sl.fr p λb hb h=>by rw[g1]at hb;cases hb;omega
   have l5:AQ l (.slice d1 (Cf g C.q k0 (i+1)).length d2) (Cf g C.q k0 (i+1)):=by
    by_cases hl:Cf g C.q k0 (i+1)=[]
    ·rw[hl];exact AQ.nil' _ _ _
    ·have F:=c0.lt hl;obtain⟨gq,g1,g2,g3⟩:=F;exact i4.sl.fr p λb hb h=>by rw[g1]at hb;cases hb;omega
   have i9:=V.st.away p λk hk i hi h=>(V.rw k hk i hi).2.2 h;have j0:=V.fz l (a7.mono λi _ h=>.inl h);have j1:MV l rr.r C:=(f9 l ((k4.trans (p.mono λi _ h=>.inr (.inl h))).mono λi _ h=>.inl h)).1;have k8:=p.size;have n5:=F2.words.len;have j2:B<=t.heap.size:=by omega
   have wide:∀{u:World},l.heap.size<=u.heap.size->(∀i,gR (gR R w9 t) t l i->gR R w u i)/\∀i,gR R w u i->B<=i/\i<u.heap.size:=λ{u} hz=>by
    refine⟨λi hi=>?_,λi hi=>?_⟩
    ·rcases hi with (hi|hi)|hi
     ·exact .inl hi
     ·exact .inr (by omega)
     ·exact .inr (by omega)
    ·rcases hi with hi|hi
     ·have:=d8 i hi;omega
     ·omega
   have apart:∀i,(w.heap.size<=i/\i<w9.heap.size)\/l.heap.size<=i->¬gR (gR R w9 t) t l i:=λi h hi=>by
    rcases hi with (hi|hi)|hi
    ·have:=b5 i hi;omega
    ·omega
    ·omega
   have c1:Fr R w l:=d7.trans (p.mono λi _ h=>h ▸ S.rj);have mF:∀{u:World},Fr (λi=>(w.heap.size<=i/\i<w9.heap.size)\/l.heap.size<=i) l u->Fr R w u:=λ{u} f=>c1.join f (λ_ _ h=>h) λi hi h=>by omega
   have mZ:∀{u:World},Fr (λi=>(w.heap.size<=i/\i<w9.heap.size)\/l.heap.size<=i) l u->Co k0 (gR R w u) B u bs g c s (FA g c.workers (DV s.held k0 C i)) K wt hd lw lh (lj.set k0 nj) U:=λ{u} f =>
    ((V.fin (w1:=t) (w':=l) (kx':=k0) (s':=s) (Ls':=FA g c.workers (DV s.held k0 C i)) (Qe _) a7 j2 c4 i7 i9 (.refl _) V.so
     ((V.fz1 (w':=t)).imp λu I=>⟨I.rows,I.pos,I.words,I.wk,I.fw,I.fh,I.lwn,I.waits,I.lhn,by simp[I.ljn],nW l2 I.helds⟩)).away f apart).wide (wide f.size).1 (wide f.size).2
   have Zm:Fz (Cr bs K.bj c.workers U) (gR (gR R w9 t) t t) t λu=>AQ u (.slice d1 (Cf g C.q k0 (i+1)).length d2) (Cf g C.q k0 (i+1)):=
    c0.fzB i4.sl λi h1 h2=>⟨.inl (.inr (by omega)),λh=>by
     have F:=l1 i h;rcases F with h4|h4
     ·have:=b5 i (S.mut h4);omega
     ·omega⟩
   have mP:∀{u:World},Fr (λi=>(w.heap.size<=i/\i<w9.heap.size)\/l.heap.size<=i) l u->DX g c ⟨s.wait,DV s.held k0 C i⟩->BB (gR R w u) B u bs g c ⟨s.wait,DV s.held k0 C i⟩:=λ{u} f b4 =>
    ⟨K,wt,hd,lw,lh,lj.set k0 nj,U,((V.fin (w1:=t) (w':=l) (kx':=1000) (s':=⟨s.wait,DV s.held k0 C i⟩) (Ls':=FA g c.workers (DV s.held k0 C i)) (Qe _) a7 j2 c4 i7 i9 (.refl _) b4
     (((V.fz1 (w':=t)).and Zm).imp λu ⟨I,Sm⟩=>⟨I.rows,I.pos,I.words,I.wk,I.fw,I.fh,I.lwn,I.waits,by simp[I.lhn],by simp[I.ljn],vF hk hu I.helds ⟨by rw[e5];exact Sm,by rw[e5]⟩⟩)).away f apart).wide (wide f.size).1 (wide f.size).2⟩
   clear wide Zm;have b4:=(jU k0 S.so).1;have F:∃an,an=(Az g C.q (sts g C.q k0 (i+1)) (Cf g C.q k0 (i+1))).1:=⟨_,rfl⟩;obtain⟨an,e6⟩:=F;have F:∃dn,dn=(Az g C.q (sts g C.q k0 (i+1)) (Cf g C.q k0 (i+1))).2:=⟨_,rfl⟩;obtain⟨dn,hdn⟩:=F
   have DD:∀{u:World},Le l u->Sp PP 176 #[agg rr.r.q,.slice K.ws.a K.ws.n K.ws.c,.slice h8 (sts g C.q k0 (i+1)).length h9,.slice d1 (Cf g C.q k0 (i+1)).length d2] u λv w'=>(∃v1,v=.tuple #[v1,.bool dn]/\Kc u.heap.size w' v1 an)/\AC u w':=λ{u} L=>by
    have D:=tQ (j1.q.up (w':=u)) g0.q.ok g4 (j0.words.up (w':=u)) (j0.pos.up (w':=u)) (by omega) (l4.up (w':=u)) (by have:=g7 (i+1);omega) (λx hx=>by have:=c9 hx;omega) (l5.up (w':=u)) (by have:=j7 (i+1);omega);rw[<-e6,<-hdn]at D;exact D
   have o7:bs<l.heap.size:=by omega
   have o8:bx<l.heap.size:=by omega
   have o9:bJ<l.heap.size:=by omega
   refine dT (λi=>l.heap.size<=i) (oL [0,1,2,3,4,5,6,7] (.two 8 (oL [9,10,11,12,13,14] .nil) 12 (oL [8,9,10,11,13,14] .nil))) λj3 p0=>tG l3 rr.r.q (by omega) (tX c4 rfl (by omega) ?_);refine⟨?_,?_⟩
   ·refine AA (DD (u:=j3) inferInstance) ?_;rintro _ e7 ⟨⟨v1,rfl,Y,rfl,e8,f0,OA⟩,l6⟩;refine⟨Fr.fr l6.e,?_⟩;refine Ap λba d3 f1 j4=>⟨Fr.fr f1.e,?_⟩;have l7:=f1.lo (u:=l);refine rS j4 (enc Y) (AK.one _) λE a8 a9 _=>?_;have a8:Bk E ba (enc Y) 171:=a8;refine⟨a9.mono λi _ h=>by omega,?_⟩;have l8:AC l E:=⟨Fr.st (lE l d3) a9 λi h=>by omega⟩;have n6:=f1.b;have c5:=((OA.up (w':=d3)).frc a9 j4).mono (B':=l.heap.size) (lz l j3);have c6:=i8.mv (w:=E);have c7:=b3.mv (w:=E);have l9:=lz l E;have a1:Fr (λi=>(w.heap.size<=i/\i<w9.heap.size)\/l.heap.size<=i) l E:=fE l E
    cases dn with
    |true =>
     have F:=Xe hu J hdn.symm;obtain⟨q1,q2⟩:=F;rw[<-e6]at q1;refine rG a8 Y (rS c6 (enc Y) (AK.one _) λO H b0 _=>?_);have H:Bk O a5 (enc (⟨rr.r.id,0,Y⟩:CG)) 173:=H;have Z:=c7.fr b0 (by omega);refine rG H (⟨rr.r.id,0,Y⟩:CG) (rS Z (enc (⟨rr.r.id,0,Y⟩:CG)) (AK.one _) λQ z G _=>?_);have z:Bk Q b6 (enc (⟨rr.r.id,0,Y⟩:CG)) 173:=z;refine AR (B:=z) rfl ?_;have fl:=(a1.trans (b0.mono λi _ h=>.inl (by omega))).trans (G.mono λi _ h=>.inl (by omega));have c8:=((c5.fr b0 λb hb _ h=>by omega).fr G λb hb _ h=>by omega);have SZ:=mZ fl;exact⟨⟨⟨rr.r.id,0,Y⟩,true,rfl,.inl ⟨rfl,_,_,K,wt,hd,lw,lh,_,U,q1,b7.id,rfl,e8,f0,c8.fz (λi h1 h2=>⟨.inr ⟨by omega,h2⟩,λh=>by have:=(V.reg i (V.mut h)).2;omega⟩),SZ,Tq hk,q2⟩⟩,mF fl⟩
    |false =>
     refine dQ 10 λO m0=>tX d9 rfl nf (IV (y:=((i+1:Nat):Int)) (by omega) (by omega) (tX c4 rfl nf ?_));have H:=c6.mv (w:=O);have Z:=c7.mv (w:=O);have a4:=a1.trans (fE E O);refine ite (λf2=>?_) (λf2=>?_)
     ·have F:=cZ hu J hdn.symm (by omega);obtain⟨q1,q2⟩:=F;refine rS H [.int .i64 251] (HT _) λQ b1 G _=>?_;have b1:Bk Q a5 (enc (EG rr.r.id 251)) 173:=b1;have z:=Z.fr G (by omega);refine rG b1 (EG rr.r.id 251) (rS z (enc (EG rr.r.id 251)) (AK.one _) λf3 b2 f4 _=>?_);have b2:Bk f3 b6 (enc (EG rr.r.id 251)) 173:=b2;refine AR (B:=b2) rfl ?_;have fl:=(a4.trans (G.mono λi _ h=>.inl (by omega))).trans (f4.mono λi _ h=>.inl (by omega));exact⟨⟨EG rr.r.id 251,true,rfl,.inl ⟨rfl,_,_,K,wt,hd,lw,lh,_,U,q1,b7.id,rfl,rfl,rfl,(λu _=>AQ.nil u),mZ fl,Tq hk,q2⟩⟩,mF fl⟩
     ·have F:=Wp hu J hdn.symm (by omega);obtain⟨q1,q2⟩:=F;refine rG H (EG rr.r.id 0) (rS Z (enc (EG rr.r.id 0)) (AK.one _) λQ z G _=>?_);have z:Bk Q b6 (enc (EG rr.r.id 0)) 173:=z;refine AR (B:=z) rfl ?_;have fl:=a4.trans (G.mono λi _ h=>.inl (by omega));rw[q2]at b4;have q3:=mP fl b4;rw[show DV s.held k0 C i=(Ah g c s.held k0).1 from q2.symm]at q3;exact⟨⟨EG rr.r.id 0,false,rfl,.inr ⟨rfl,q1,q3⟩⟩,mF fl⟩
   ·refine Ap λba e7 f7 m1=>⟨Fr.fr f7.e,?_⟩;have l7:=f7.lo (u:=l);refine AA (DD (u:=e7) inferInstance) ?_;rintro _ d3 ⟨⟨v1,rfl,Y,rfl,e8,f0,OA⟩,m2⟩;refine⟨Fr.fr m2.e,?_⟩;refine rS m1 (enc Y) (AK.one _) λE a8 a9 _=>?_;have a8:Bk E ba (enc Y) 171:=a8;refine⟨a9.mono λi _ h=>by omega,?_⟩;have l8:AC l E:=⟨Fr.st (lE l d3) a9 λi h=>by omega⟩;have n8:=f7.lt;have c5:=(OA.fr a9 λb hb _ h=>by omega).mono (B':=l.heap.size) (lz l e7);have c6:=i8.mv (w:=E);have c7:=b3.mv (w:=E);have l9:=lz l E;have a1:Fr (λi=>(w.heap.size<=i/\i<w9.heap.size)\/l.heap.size<=i) l E:=fE l E
    cases dn with
    |true =>
     have F:=Xe hu J hdn.symm;obtain⟨q1,q2⟩:=F;rw[<-e6]at q1;refine rG a8 Y (rS c6 (enc Y) (AK.one _) λO H b0 _=>?_);have H:Bk O a5 (enc (⟨rr.r.id,0,Y⟩:CG)) 173:=H;have Z:=c7.fr b0 (by omega);refine rG H (⟨rr.r.id,0,Y⟩:CG) (rS Z (enc (⟨rr.r.id,0,Y⟩:CG)) (AK.one _) λQ z G _=>?_);have z:Bk Q b6 (enc (⟨rr.r.id,0,Y⟩:CG)) 173:=z;refine AR (B:=z) rfl ?_;have fl:=(a1.trans (b0.mono λi _ h=>.inl (by omega))).trans (G.mono λi _ h=>.inl (by omega));have c8:=((c5.fr b0 λb hb _ h=>by omega).fr G λb hb _ h=>by omega);have SZ:=mZ fl;exact⟨⟨⟨rr.r.id,0,Y⟩,true,rfl,.inl ⟨rfl,_,_,K,wt,hd,lw,lh,_,U,q1,b7.id,rfl,e8,f0,c8.fz (λi h1 h2=>⟨.inr ⟨by omega,h2⟩,λh=>by have:=(V.reg i (V.mut h)).2;omega⟩),SZ,Tq hk,q2⟩⟩,mF fl⟩
    |false =>
     refine dQ 10 λO m0=>tX d9 rfl nf (IV (y:=((i+1:Nat):Int)) (by omega) (by omega) (tX c4 rfl nf ?_));have H:=c6.mv (w:=O);have Z:=c7.mv (w:=O);have a4:=a1.trans (fE E O);refine ite (λf2=>?_) (λf2=>?_)
     ·have F:=cZ hu J hdn.symm (by omega);obtain⟨q1,q2⟩:=F;refine rS H [.int .i64 251] (HT _) λQ b1 G _=>?_;have b1:Bk Q a5 (enc (EG rr.r.id 251)) 173:=b1;have z:=Z.fr G (by omega);refine rG b1 (EG rr.r.id 251) (rS z (enc (EG rr.r.id 251)) (AK.one _) λf3 b2 f4 _=>?_);have b2:Bk f3 b6 (enc (EG rr.r.id 251)) 173:=b2;refine AR (B:=b2) rfl ?_;have fl:=(a4.trans (G.mono λi _ h=>.inl (by omega))).trans (f4.mono λi _ h=>.inl (by omega));exact⟨⟨EG rr.r.id 251,true,rfl,.inl ⟨rfl,_,_,K,wt,hd,lw,lh,_,U,q1,b7.id,rfl,rfl,rfl,(λu _=>AQ.nil u),mZ fl,Tq hk,q2⟩⟩,mF fl⟩
     ·have F:=Wp hu J hdn.symm (by omega);obtain⟨q1,q2⟩:=F;refine rG H (EG rr.r.id 0) (rS Z (enc (EG rr.r.id 0)) (AK.one _) λQ z G _=>?_);have z:Bk Q b6 (enc (EG rr.r.id 0)) 173:=z;refine AR (B:=z) rfl ?_;have fl:=a4.trans (G.mono λi _ h=>.inl (by omega));rw[q2]at b4;have q3:=mP fl b4;rw[show DV s.held k0 C i=(Ah g c s.held k0).1 from q2.symm]at q3;exact⟨⟨EG rr.r.id 0,false,rfl,.inr ⟨rfl,q1,q3⟩⟩,mF fl⟩
 ·refine Ap λbJ w3 n3 p1=>⟨Fr.fr n3.e,?_⟩;refine Ap λbx w4 n4 X4=>⟨Fr.fr n4.e,?_⟩;have g9:=n4.lo (u:=w);have e0:=n3.lo (u:=w);have m7:=n4.lo (u:=w1);have m8:=n3.lo (u:=w1);have d4:¬bJ=bx:=by have:=n4.b;have:=n3.lt;omega
  have g8:=p1.mv (w:=w4);refine rS X4 (enc rr.r) (AK.one _) λw5 X5 f5 _=>?_;have X5:Bk w5 bx (enc rr.r) 103:=X5;have s5:AC w1 w5:=⟨Fr.st (lE w1 w4) f5 λi hi=>by omega⟩;have h0:=g8.fr f5 d4;refine⟨f5.mono λi _ hi=>by omega,?_⟩;refine rS h0 (enc jj) (AK.one _) λw6 e1 f6 _=>?_;have e1:Bk w6 bJ (enc jj) 258:=e1;have s6:AC w1 w6:=⟨Fr.st s5.e f6 λi hi=>by omega⟩;have X6:=X5.fr f6 (λh=>d4 h.symm);refine⟨f6.mono λi _ hi=>by omega,?_⟩;clear X4 g8 X5 h0;refine rX X6 rfl (AJ (cs:=enc (EG rr.r.id 0)) rfl (Ap λa5 w7 n7 Y7=>?_));have h5:=n7.lo (u:=w);have m9:b6<a5:=by have:=n7.b;have:=lz w1 w6;omega
  refine rS Y7 (enc (EG rr.r.id 0)) (AK.one _) λw8 Y8 f8 _=>?_;have Y8:Bk w8 a5 (enc (EG rr.r.id 0)) 173:=Y8;have s8:AC w6 w8:=⟨Fr.st (lE w6 w7) f8 λi hi=>by have:=n7.b;omega⟩;clear Y7 f8;have X8:=X6.mv (w:=w8);have e3:=e1.mv (w:=w8);refine dD (λ_=>False) [0,1,2,3,4,5,6,7,9,10,11,12,13,14,15,16,8,17,18,19,20,21,22,23,24] λw9 e9=>tG X8 rr.r.q nf (tG S.cell K.xr nf (tX e3 rfl nf (tX S.cell rfl nf ?_)));refine AA (vG (BB.up (w':=w9) SP) hk) ?_;rintro _ d0 ⟨b8,h6⟩;rw[hu]at b8;have b8:AD w9.heap.size 341 d0 _ (sts g C.q k0 i):=b8;have F:=b8.shape;obtain⟨sa,sc,rfl⟩:=F;refine⟨h6.e,?_⟩;have Fu:=S.fz.at (w':=d0);have hV:=(f9.at (w':=d0));have D:=oQ (W:=c.workers) (xq:=rr.r.q) (S:=sts g C.q k0 i) (M:=Cf g C.q k0 i) g4 Fu.rows ⟨hV.1.q.kind,hV.1.q.rad⟩ b8.sl hV.2 (h3.up (w':=d0)) hW (hU i) (λx hx=>⟨(c9 hx).1,(c9 hx).2.1⟩) (λx hx=>⟨(j6 hx).1,(j6 hx).2.1⟩) (by have:=g7 i;omega) (j7 i);rw[j9]at D;refine AA D ?_;rintro _ T ⟨⟨v1,v2,rfl,b9,c0⟩,h7⟩;dsimp only at b9 c0;refine⟨h7.e,?_⟩;have F:=b9.shape;obtain⟨h8,h9,rfl⟩:=F;have F:=c0.shape;obtain⟨d1,d2,rfl⟩:=F;refine iF (· rfl) ?_;have z9:=lz w w9;have o3:=h6.e.size;have o4:=h7.e.size;have ly:=(Y8.mv (w:=w9)).lt;have lq:=(Y1.mv (w:=w9)).lt;have lx:=(X8.mv (w:=w9)).lt;have lJ:=(e3.mv (w:=w9)).lt;refine AA (wM (S.up (w':=T)) (Qw hB (lz w T)) hu b9 (λi hi=>by have:=b5 i hi;omega)) ?_;rintro _ t ⟨⟨b,Ls,U,rfl,V,k2,k3,i0,i1⟩,d5⟩;have a0:Fr R T t:=d5.mono λi _ ⟨k,hk,h⟩=>(S.rw k hk i h).1;have k4:Fr (Cr bs K.bj c.workers RW) w t:=(fE w T).trans (d5.mono λi _ h=>Vg h);have a6:∀{b:Nat},w.heap.size<=b->¬R b:=λ{b} hb h=>by have:=b5 b h;omega
  have i2:=(Y8.mv (w:=T)).fr a0 (a6 h5);have i3:=(Y1.mv (w:=T)).fr a0 (a6 j8);have k5:=(X8.mv (w:=T)).fr a0 (a6 g9);have d6:=(e3.mv (w:=T)).fr a0 (a6 e0);have k6:=b9.fr a0 λb hb _=>a6 (by omega);have i4:=c0.fr a0 λb hb _=>a6 (by omega);have o5:=a0.size;have d7:Fr R w t:=(fE w T).trans a0;have J:CX g c (s.held.set k0 (some (C,i+1))) = !b:=k3
  cases b with
  |false =>
   have F:=qT hu J;obtain⟨q1,q2⟩:=F;refine rS i2 [.int .i64 250] (HT _) λX e4 i5 _=>?_;have e4:Bk X a5 (enc (EG rr.r.id 250)) 173:=e4;have k7:=i3.fr i5 (by omega);refine rG e4 (EG rr.r.id 250) (rS k7 (enc (EG rr.r.id 250)) (AK.one _) λl b3 N _=>?_);have b3:Bk l b6 (enc (EG rr.r.id 250)) 173:=b3;refine AR (B:=b3) rfl ?_;have p:Fr (λi=>w.heap.size<=i/\i<w9.heap.size) t l:=(i5.mono λi _ hi=>by omega).trans (N.mono λi _ hi=>by omega);have c1:Fr R w l:=d7.join p (λ_ _ h=>h) λi hi h=>by omega
   have k8:=p.size
   have k9:=(V.away p (λi hi h=>by rcases h with h|h;exact a6 hi.1 h;omega)).wide (R':=gR R w l) (λi hi=>hi.imp id λh=>by omega) λi hi=>by
    have:=(CU.reg SP).1;rcases hi with hi|hi
    ·have:=this i hi;omega
    ·omega
   exact⟨⟨EG rr.r.id 250,true,rfl,.inl ⟨rfl,_,Ls,K,wt,hd,lw,lh,lj,U,q1,b7.id,rfl,rfl,rfl,(λu _=>AQ.nil u),k9.loose k0,i0,q2⟩⟩,c1⟩
  |true =>
   have l0:=i1 rfl;subst l0;have d8:=(CU.reg SP).1
   have l1:∀i,Cr bs K.bj c.workers U i->Cr bs K.bj c.workers RW i\/T.heap.size<=i:=λi h=>by
    rcases h with h|h|⟨k,hk,h⟩
    ·exact .inl (.inl h)
    ·exact .inl (.inr (.inl h))
    ·exact(k2 k hk i h).imp (λh1=>.inr (.inr ⟨k,hk,h1⟩)) id
   have V:=V.wide (R':=gR R w9 t) (λi hi=>hi.imp id λh=>by omega) λi hi=>by
    rcases hi with hi|hi
    ·have:=d8 i hi;omega
    ·omega
   have F2:=V.fz.here;have n0:k0<lj.length:=by omega
   have l2:lh.length<=64:=by rw[F2.lhn];omega
   have c2:∀{b:Nat},w.heap.size<=b->¬b=K.bj:=λ{b} h1 h=>by omega
   have F:∃nj:FK,nj=⟨⟨d1,(Cf g C.q k0 (i+1)).length,d2⟩,((i+1:Nat):Int)⟩:=⟨_,rfl⟩;obtain⟨nj,e5⟩:=F;refine dD (λi=>i=K.bj) (Hn 12 0) λX o6=>tX V.cell rfl (λh=>V.ne h) (tX d6 rfl (c2 e0) (IV (y:=((i+1:Nat):Int)) (by omega) (by omega) (As (cs:=enc nj) (by rw[e5];rfl) ?_)));have i6:=V.jobs.up (w':=X);refine ET rfl i6 (x:=lj[k0]) (by simp) λgj hgj _ _=>CZ rfl nj i6 hgj g5 rfl λl i7 N _=>?_;have N:Fr (λi=>i=K.bj) X l:=N.mono λi _ hi=>cR hi;refine⟨N,?_⟩;have i8:=(i2.mv (w:=X)).fr N (c2 h5);have b3:=(i3.mv (w:=X)).fr N (c2 j8);have l3:=(k5.mv (w:=X)).fr N (c2 g9);have d9:=(d6.mv (w:=X)).fr N (c2 e0);have c4:=(V.cell.mv (w:=X)).fr N V.ne;have p:Fr (λi=>i=K.bj) t l:=(fE t X).trans N;have a7:Fr (Cr bs K.bj c.workers U) t l:=p.mono λi _ h=>.inr (.inl h)
   have l4:AQ l (.slice h8 (sts g C.q k0 (i+1)).length h9) (sts g C.q k0 (i+1)):=by
    by_cases hl:sts g C.q k0 (i+1)=[]
    ·rw[hl];exact AQ.nil' _ _ _
    ·have F:=b9.lt hl;obtain⟨gq,g1,g2,g3⟩:=F;exact k6.sl.fr p λb hb h=>by rw[g1]at hb;cases hb;omega
   have l5:AQ l (.slice d1 (Cf g C.q k0 (i+1)).length d2) (Cf g C.q k0 (i+1)):=by
    by_cases hl:Cf g C.q k0 (i+1)=[]
    ·rw[hl];exact AQ.nil' _ _ _
    ·have F:=c0.lt hl;obtain⟨gq,g1,g2,g3⟩:=F;exact i4.sl.fr p λb hb h=>by rw[g1]at hb;cases hb;omega
   have i9:=V.st.away p λk hk i hi h=>(V.rw k hk i hi).2.2 h;have j0:=V.fz l (a7.mono λi _ h=>.inl h);have j1:MV l rr.r C:=(f9 l ((k4.trans (p.mono λi _ h=>.inr (.inl h))).mono λi _ h=>.inl h)).1;have k8:=p.size;have n5:=F2.words.len;have j2:B<=t.heap.size:=by omega
   have wide:∀{u:World},l.heap.size<=u.heap.size->(∀i,gR (gR R w9 t) t l i->gR R w u i)/\∀i,gR R w u i->B<=i/\i<u.heap.size:=λ{u} hz=>by
    refine⟨λi hi=>?_,λi hi=>?_⟩
    ·rcases hi with (hi|hi)|hi
     ·exact .inl hi
     ·exact .inr (by omega)
     ·exact .inr (by omega)
    ·rcases hi with hi|hi
     ·have:=d8 i hi;omega
     ·omega
   have apart:∀i,(w.heap.size<=i/\i<w9.heap.size)\/l.heap.size<=i->¬gR (gR R w9 t) t l i:=λi h hi=>by
    rcases hi with (hi|hi)|hi
    ·have:=b5 i hi;omega
    ·omega
    ·omega
   have c1:Fr R w l:=d7.trans (p.mono λi _ h=>h ▸ S.rj);have mF:∀{u:World},Fr (λi=>(w.heap.size<=i/\i<w9.heap.size)\/l.heap.size<=i) l u->Fr R w u:=λ{u} f=>c1.join f (λ_ _ h=>h) λi hi h=>by omega
   have mZ:∀{u:World},Fr (λi=>(w.heap.size<=i/\i<w9.heap.size)\/l.heap.size<=i) l u->Co k0 (gR R w u) B u bs g c s (FA g c.workers (DV s.held k0 C i)) K wt hd lw lh (lj.set k0 nj) U:=λ{u} f =>
    ((V.fin (w1:=t) (w':=l) (kx':=k0) (s':=s) (Ls':=FA g c.workers (DV s.held k0 C i)) (Qe _) a7 j2 c4 i7 i9 (.refl _) V.so
     ((V.fz1 (w':=t)).imp λu I=>⟨I.rows,I.pos,I.words,I.wk,I.fw,I.fh,I.lwn,I.waits,I.lhn,by simp[I.ljn],nW l2 I.helds⟩)).away f apart).wide (wide f.size).1 (wide f.size).2
   have Zm:Fz (Cr bs K.bj c.workers U) (gR (gR R w9 t) t t) t λu=>AQ u (.slice d1 (Cf g C.q k0 (i+1)).length d2) (Cf g C.q k0 (i+1)):=
    c0.fzB i4.sl λi h1 h2=>⟨.inl (.inr (by omega)),λh=>by
     have F:=l1 i h;rcases F with h4|h4
     ·have:=b5 i (S.mut h4);omega
     ·omega⟩
   have mP:∀{u:World},Fr (λi=>(w.heap.size<=i/\i<w9.heap.size)\/l.heap.size<=i) l u->DX g c ⟨s.wait,DV s.held k0 C i⟩->BB (gR R w u) B u bs g c ⟨s.wait,DV s.held k0 C i⟩:=λ{u} f b4 =>
    ⟨K,wt,hd,lw,lh,lj.set k0 nj,U,((V.fin (w1:=t) (w':=l) (kx':=1000) (s':=⟨s.wait,DV s.held k0 C i⟩) (Ls':=FA g c.workers (DV s.held k0 C i)) (Qe _) a7 j2 c4 i7 i9 (.refl _) b4
     (((V.fz1 (w':=t)).and Zm).imp λu ⟨I,Sm⟩=>⟨I.rows,I.pos,I.words,I.wk,I.fw,I.fh,I.lwn,I.waits,by simp[I.lhn],by simp[I.ljn],vF hk hu I.helds ⟨by rw[e5];exact Sm,by rw[e5]⟩⟩)).away f apart).wide (wide f.size).1 (wide f.size).2⟩
   clear wide Zm;have b4:=(jU k0 S.so).1;have F:∃an,an=(Az g C.q (sts g C.q k0 (i+1)) (Cf g C.q k0 (i+1))).1:=⟨_,rfl⟩;obtain⟨an,e6⟩:=F;have F:∃dn,dn=(Az g C.q (sts g C.q k0 (i+1)) (Cf g C.q k0 (i+1))).2:=⟨_,rfl⟩;obtain⟨dn,hdn⟩:=F
   have DD:∀{u:World},Le l u->Sp PP 176 #[agg rr.r.q,.slice K.ws.a K.ws.n K.ws.c,.slice h8 (sts g C.q k0 (i+1)).length h9,.slice d1 (Cf g C.q k0 (i+1)).length d2] u λv w'=>(∃v1,v=.tuple #[v1,.bool dn]/\Kc u.heap.size w' v1 an)/\AC u w':=λ{u} L=>by
    have D:=tQ (j1.q.up (w':=u)) g0.q.ok g4 (j0.words.up (w':=u)) (j0.pos.up (w':=u)) (by omega) (l4.up (w':=u)) (by have:=g7 (i+1);omega) (λx hx=>by have:=c9 hx;omega) (l5.up (w':=u)) (by have:=j7 (i+1);omega);rw[<-e6,<-hdn]at D;exact D
   have o7:bs<l.heap.size:=by omega
   have o8:bx<l.heap.size:=by omega
   have o9:bJ<l.heap.size:=by omega
   refine dT (λi=>l.heap.size<=i) (oL [0,1,2,3,4,5,6,7] (.two 8 (oL [9,10,11,12,13,14] .nil) 12 (oL [8,9,10,11,13,14] .nil))) λj3 p0=>tG l3 rr.r.q (by omega) (tX c4 rfl (by omega) ?_);refine⟨?_,?_⟩
   ·refine AA (DD (u:=j3) inferInstance) ?_;rintro _ e7 ⟨⟨v1,rfl,Y,rfl,e8,f0,OA⟩,l6⟩;refine⟨Fr.fr l6.e,?_⟩;refine Ap λba d3 f1 j4=>⟨Fr.fr f1.e,?_⟩;have l7:=f1.lo (u:=l);refine rS j4 (enc Y) (AK.one _) λE a8 a9 _=>?_;have a8:Bk E ba (enc Y) 171:=a8;refine⟨a9.mono λi _ h=>by omega,?_⟩;have l8:AC l E:=⟨Fr.st (lE l d3) a9 λi h=>by omega⟩;have n6:=f1.b;have c5:=((OA.up (w':=d3)).frc a9 j4).mono (B':=l.heap.size) (lz l j3);have c6:=i8.mv (w:=E);have c7:=b3.mv (w:=E);have l9:=lz l E;have a1:Fr (λi=>(w.heap.size<=i/\i<w9.heap.size)\/l.heap.size<=i) l E:=fE l E
    cases dn with
    |true =>
     have F:=Xe hu J hdn.symm;obtain⟨q1,q2⟩:=F;rw[<-e6]at q1;refine rG a8 Y (rS c6 (enc Y) (AK.one _) λO H b0 _=>?_);have H:Bk O a5 (enc (⟨rr.r.id,0,Y⟩:CG)) 173:=H;have Z:=c7.fr b0 (by omega);refine rG H (⟨rr.r.id,0,Y⟩:CG) (rS Z (enc (⟨rr.r.id,0,Y⟩:CG)) (AK.one _) λQ z G _=>?_);have z:Bk Q b6 (enc (⟨rr.r.id,0,Y⟩:CG)) 173:=z;refine AR (B:=z) rfl ?_;have fl:=(a1.trans (b0.mono λi _ h=>.inl (by omega))).trans (G.mono λi _ h=>.inl (by omega));have c8:=((c5.fr b0 λb hb _ h=>by omega).fr G λb hb _ h=>by omega);have SZ:=mZ fl;exact⟨⟨⟨rr.r.id,0,Y⟩,true,rfl,.inl ⟨rfl,_,_,K,wt,hd,lw,lh,_,U,q1,b7.id,rfl,e8,f0,c8.fz (λi h1 h2=>⟨.inr ⟨by omega,h2⟩,λh=>by have:=(V.reg i (V.mut h)).2;omega⟩),SZ,Tq hk,q2⟩⟩,mF fl⟩
    |false =>
     refine dQ 10 λO m0=>tX d9 rfl nf (IV (y:=((i+1:Nat):Int)) (by omega) (by omega) (tX c4 rfl nf ?_));have H:=c6.mv (w:=O);have Z:=c7.mv (w:=O);have a4:=a1.trans (fE E O);refine ite (λf2=>?_) (λf2=>?_)
     ·have F:=cZ hu J hdn.symm (by omega);obtain⟨q1,q2⟩:=F;refine rS H [.int .i64 251] (HT _) λQ b1 G _=>?_;have b1:Bk Q a5 (enc (EG rr.r.id 251)) 173:=b1;have z:=Z.fr G (by omega);refine rG b1 (EG rr.r.id 251) (rS z (enc (EG rr.r.id 251)) (AK.one _) λf3 b2 f4 _=>?_);have b2:Bk f3 b6 (enc (EG rr.r.id 251)) 173:=b2;refine AR (B:=b2) rfl ?_;have fl:=(a4.trans (G.mono λi _ h=>.inl (by omega))).trans (f4.mono λi _ h=>.inl (by omega));exact⟨⟨EG rr.r.id 251,true,rfl,.inl ⟨rfl,_,_,K,wt,hd,lw,lh,_,U,q1,b7.id,rfl,rfl,rfl,(λu _=>AQ.nil u),mZ fl,Tq hk,q2⟩⟩,mF fl⟩
     ·have F:=Wp hu J hdn.symm (by omega);obtain⟨q1,q2⟩:=F;refine rG H (EG rr.r.id 0) (rS Z (enc (EG rr.r.id 0)) (AK.one _) λQ z G _=>?_);have z:Bk Q b6 (enc (EG rr.r.id 0)) 173:=z;refine AR (B:=z) rfl ?_;have fl:=a4.trans (G.mono λi _ h=>.inl (by omega));rw[q2]at b4;have q3:=mP fl b4;rw[show DV s.held k0 C i=(Ah g c s.held k0).1 from q2.symm]at q3;exact⟨⟨EG rr.r.id 0,false,rfl,.inr ⟨rfl,q1,q3⟩⟩,mF fl⟩
   ·refine Ap λba e7 f7 m1=>⟨Fr.fr f7.e,?_⟩;have l7:=f7.lo (u:=l);refine AA (DD (u:=e7) inferInstance) ?_;rintro _ d3 ⟨⟨v1,rfl,Y,rfl,e8,f0,OA⟩,m2⟩;refine⟨Fr.fr m2.e,?_⟩;refine rS m1 (enc Y) (AK.one _) λE a8 a9 _=>?_;have a8:Bk E ba (enc Y) 171:=a8;refine⟨a9.mono λi _ h=>by omega,?_⟩;have l8:AC l E:=⟨Fr.st (lE l d3) a9 λi h=>by omega⟩;have n8:=f7.lt;have c5:=(OA.fr a9 λb hb _ h=>by omega).mono (B':=l.heap.size) (lz l e7);have c6:=i8.mv (w:=E);have c7:=b3.mv (w:=E);have l9:=lz l E;have a1:Fr (λi=>(w.heap.size<=i/\i<w9.heap.size)\/l.heap.size<=i) l E:=fE l E
    cases dn with
    |true =>
     have F:=Xe hu J hdn.symm;obtain⟨q1,q2⟩:=F;rw[<-e6]at q1;refine rG a8 Y (rS c6 (enc Y) (AK.one _) λO H b0 _=>?_);have H:Bk O a5 (enc (⟨rr.r.id,0,Y⟩:CG)) 173:=H;have Z:=c7.fr b0 (by omega);refine rG H (⟨rr.r.id,0,Y⟩:CG) (rS Z (enc (⟨rr.r.id,0,Y⟩:CG)) (AK.one _) λQ z G _=>?_);have z:Bk Q b6 (enc (⟨rr.r.id,0,Y⟩:CG)) 173:=z;refine AR (B:=z) rfl ?_;have fl:=(a1.trans (b0.mono λi _ h=>.inl (by omega))).trans (G.mono λi _ h=>.inl (by omega));have c8:=((c5.fr b0 λb hb _ h=>by omega).fr G λb hb _ h=>by omega);have SZ:=mZ fl;exact⟨⟨⟨rr.r.id,0,Y⟩,true,rfl,.inl ⟨rfl,_,_,K,wt,hd,lw,lh,_,U,q1,b7.id,rfl,e8,f0,c8.fz (λi h1 h2=>⟨.inr ⟨by omega,h2⟩,λh=>by have:=(V.reg i (V.mut h)).2;omega⟩),SZ,Tq hk,q2⟩⟩,mF fl⟩
    |false =>
     refine dQ 10 λO m0=>tX d9 rfl nf (IV (y:=((i+1:Nat):Int)) (by omega) (by omega) (tX c4 rfl nf ?_));have H:=c6.mv (w:=O);have Z:=c7.mv (w:=O);have a4:=a1.trans (fE E O);refine ite (λf2=>?_) (λf2=>?_)
     ·have F:=cZ hu J hdn.symm (by omega);obtain⟨q1,q2⟩:=F;refine rS H [.int .i64 251] (HT _) λQ b1 G _=>?_;have b1:Bk Q a5 (enc (EG rr.r.id 251)) 173:=b1;have z:=Z.fr G (by omega);refine rG b1 (EG rr.r.id 251) (rS z (enc (EG rr.r.id 251)) (AK.one _) λf3 b2 f4 _=>?_);have b2:Bk f3 b6 (enc (EG rr.r.id 251)) 173:=b2;refine AR (B:=b2) rfl ?_;have fl:=(a4.trans (G.mono λi _ h=>.inl (by omega))).trans (f4.mono λi _ h=>.inl (by omega));exact⟨⟨EG rr.r.id 251,true,rfl,.inl ⟨rfl,_,_,K,wt,hd,lw,lh,_,U,q1,b7.id,rfl,rfl,rfl,(λu _=>AQ.nil u),mZ fl,Tq hk,q2⟩⟩,mF fl⟩
     ·have F:=Wp hu J hdn.symm (by omega);obtain⟨q1,q2⟩:=F;refine rG H (EG rr.r.id 0) (rS Z (enc (EG rr.r.id 0)) (AK.one _) λQ z G _=>?_);have z:Bk Q b6 (enc (EG rr.r.id 0)) 173:=z;refine AR (B:=z) rfl ?_;have fl:=a4.trans (G.mono λi _ h=>.inl (by omega));rw[q2]at b4;have q3:=mP fl b4;rw[show DV s.held k0 C i=(Ah g c s.held k0).1 from q2.symm]at q3;exact⟨⟨EG rr.r.id 0,false,rfl,.inr ⟨rfl,q1,q3⟩⟩,mF fl⟩
end
end Go.W
