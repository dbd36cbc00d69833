/-
  Proved here: parts of this claim.
  Conditions: told at each.
-/
import Derived.Shelf.SlLaysF0
import Derived.Test.YtnanheiakfekdaaGreatDoorProg
import Derived.RecoverIn
import Derived.Shelf.Lays
import Derived.Shelf.Small.Strs
import Derived.DeepKeys3
import Derived.Test.YtnanheiakfekdaaGreatDoorU1
set_option maxHeartbeats 4000000
set_option linter.unusedVariables false
set_option linter.unusedSimpArgs false
namespace Go.Proofs
open Go.Shelf Tryz
def Tryz.sortH_ren:Go.Shelf.Ren:=⟨fun|6=>406|15=>201|14=>420|28=>284|29=>265|20=>426|21=>427|22=>428|23=>429|24=>430|25=>431|26=>432|27=>433|46=>443|47=>352|48=>353|49=>444|50=>445|57=>449|n=>n,fun|22=>469|24=>499|25=>503|3=>3|39=>186|0=>0|53=>277|55=>281|4=>4|46=>375|45=>374|50=>70|5=>5|9=>9|66=>436|70=>440|76=>484|77=>485|n=>n,fun|n=>n⟩
theorem Tryz.sortH:Go.Proofs.SlLaysF0.n6 prog Tryz.sortH_ren:={
 mixed:=by kernel_rfl
 f6:=⟨f406.name,by decide,W.ff func406⟩
 f14:=⟨f420.name,by decide,W.ff func420⟩
 f15:=W.ff func201
 f20:=⟨f426.name,by decide,W.ff func426⟩
 f21:=⟨f427.name,by decide,W.ff func427⟩
 f22:=⟨f428.name,by decide,W.ff func428⟩
 f23:=⟨f429.name,by decide,W.ff func429⟩
 f24:=⟨f430.name,by decide,W.ff func430⟩
 f25:=⟨f431.name,by decide,W.ff func431⟩
 f26:=⟨f432.name,by decide,W.ff func432⟩
 f27:=⟨f433.name,by decide,W.ff func433⟩
 f28:=W.ff func284
 f29:=W.ff func265
 f46:=⟨f443.name,by decide,W.ff func443⟩
 f47:=W.ff func352
 f48:=W.ff func353
 f49:=⟨f444.name,by decide,W.ff func444⟩
 f50:=⟨f445.name,by decide,W.ff func445⟩
 f57:=⟨f449.name,by decide,W.ff func449⟩
 t0:=underlying0
 a0:=isAgg0
 z0:=sizeOf0
 v0:=zeroValue0
 t3:=underlying3
 a3:=isAgg3
 z3:=sizeOf3
 v3:=zeroValue3
 t4:=underlying4
 a4:=isAgg4
 z4:=sizeOf4
 v4:=zeroValue4
 t5:=underlying5
 a5:=isAgg5
 z5:=sizeOf5
 v5:=zeroValue5
 t9:=underlying9
 a9:=isAgg9
 z9:=sizeOf9
 v9:=zeroValue9
 t22:=underlying469
 a22:=isAgg469
 z22:=sizeOf469
 v22:=zeroValue469
 t25:=underlying503
 a25:=isAgg503
 z25:=sizeOf503
 v25:=zeroValue503
 t39:=underlying186
 a39:=isAgg186
 z39:=sizeOf186
 v39:=zeroValue186
 t45:=underlying374
 a45:=isAgg374
 z45:=sizeOf374
 v45:=zeroValue374
 t46:=underlying375
 a46:=isAgg375
 z46:=sizeOf375
 v46:=zeroValue375
 t50:=underlying70
 a50:=isAgg70
 z50:=sizeOf70
 v50:=zeroValue70
 t53:=underlying277
 a53:=isAgg277
 z53:=sizeOf277
 v53:=zeroValue277
 t55:=underlying281
 a55:=isAgg281
 z55:=sizeOf281
 v55:=zeroValue281
 t66:=underlying436
 a66:=isAgg436
 z66:=sizeOf436
 v66:=zeroValue436
 t70:=underlying440
 a70:=isAgg440
 z70:=sizeOf440
 v70:=zeroValue440
 t76:=underlying484
 a76:=isAgg484
 z76:=sizeOf484
 v76:=zeroValue484
 t77:=underlying485
 a77:=isAgg485
 z77:=sizeOf485
 v77:=zeroValue485 }
end Go.Proofs
namespace Go.W
open Go Go.Proofs
open AK (enc)
set_option maxRecDepth 10000
variable {B N hi i j k m n:Nat} {D R:Nat -> Prop} {P:Program} {T:Ce} {a:OA} {g:An} {q:FX} {s:U8} {u w w':World}
def Qu (B:Nat) (w:World) (b:Nat) (most:Int) (L:List AG):Prop:=(∃l:List AG,Rj B b most l w/\Dq Kw l l.length/\l.Perm L)/\HW L
theorem Qu.up[Le w w']{b:Nat}{most:Int}{L:List AG}(h:Qu B w b most L):Qu B w' b most L:=by
 obtain⟨⟨l,c,d⟩,e⟩:=h;exact⟨⟨l,c.up,d⟩,e⟩
theorem Qu.kept{C:Nat}{es:List TypeId}{b:Nat}{most:Int}{L:List AG}(h:Qu B w b most L)(f:BQ C es w w')(d:473∉es)(e:499∉es):Qu B w' b most L:=by
 obtain⟨⟨l,⟨a,c,q⟩,r⟩,o⟩:=h;exact⟨⟨l,⟨a,c,q.lo,q.cell.kept f d,q.row.kept f e,q.size⟩,r⟩,o⟩
theorem Qu.lt{b:Nat}{most:Int}{L:List AG}(h:Qu B w b most L):B<=b/\b<w.heap.size:=by
 obtain⟨⟨l,⟨a,c,q⟩,r⟩,d⟩:=h;exact⟨q.lo,q.cell.lt⟩
theorem zJ7{b:Nat}{most:Int}{L:List AG}(Q:Qu B w b most L):Sp PP 403 #[.pointer (some ⟨b,0,none⟩)] w λv w'=>v=.int .i64 (L.length:Nat)/\AC w w':=by
 obtain⟨⟨l,⟨a,c,q⟩,_,d⟩,_⟩:=Q;refine eN ?_;refine Dy (AA (wK q) ?_);rintro v w1 ⟨rfl,rfl⟩;rw[d.length_eq];exact⟨rfl,stp⟩
theorem zK1{b:Nat}{most:Int}{l:List AG}(S:Rj B b most l w)(F:Dq Kw l l.length)(h:l≠[]):
  Sp PP 404 #[.pointer (some ⟨b,0,none⟩)] w λv w'=>v=agg (CA l 0)/\(∃l':List AG,(CA l 0::l').Perm l/\Rj B b most l' w'/\Dq Kw l' l'.length)/\BQ B pE w w':=by
 refine eN ?_;refine Ap λG w1 n1 H=>Hm (AA (RG (oF B b most) (RX:=λx v=>v=.iface 499 (agg x)) (zO9 B b most) (S.up (w':=w1)) h F) ?_);rintro v f ⟨⟨rfl,l',I,J,o⟩,r⟩;have p:=n1.lo (u:=w);have K:BQ B pE w f:=(BQ.ext Le.e).trans r;have t:Bk f G [.int .i64 0,.int .i64 0] 142:=H.kept r (by decide);refine Tu (Ap λQ U n3 y=>rE y (CA l 0) λd L z _=>?_);have V:AC f d:=n3.st z;clear y z;refine rG L (CA l 0) (rE t (CA l 0) λA W C _=>?_);have M:BQ B pE w A:=Fr.new (Fr.trans K (fE f d)) C λi hi=>by omega
 have E:BQ w.heap.size [142] d A:=(t.mv (w:=d)).wrote C p (by decide);refine AR rfl ?_;have O:=J.up (w':=d);obtain⟨a,c,q⟩:=O;exact⟨rfl,⟨l',I,⟨a,c,q.lo,q.cell.kept E (by decide),q.row.kept E (by decide),q.size⟩,o⟩,M⟩
theorem zJ8{b:Nat}{most:Int}{L:List AG}{x:AG}(Q:Qu B w b most L)(hL:L.length<=99999):
  Sp PP 385 #[.pointer (some ⟨b,0,none⟩),agg x] w λv w'=>v=.tuple #[agg (Gx most L x).2.1,.bool (Gx most L x).2.2]/\Qu B w' b most (Gx most L x).1/\BQ B pE w w':=by
 have QQ:=Q;obtain⟨⟨l,S,hh,X⟩,hs⟩:=Q;have a0:=X.length_eq;refine eN ?_;refine BM λbh w1 n1 Y=>Ap λb2 w2 n2 B2=>?_;have t:=n2.lo (u:=w);refine Dy (dD (λi=>i≠bh) (Hn 7 0) λC e3=>UR (tG Y x (λh=>h rfl) (UR (AA (lM (oF B b most) (y:=x) (S.up (w':=C)) (by omega) hh (zOb (S.up (w':=C)) (by omega))) ?_))));rintro v E ⟨⟨l',G,H,d⟩,I⟩;refine⟨I.ne (Y.mv (w:=C)) (by decide),?_⟩;have Z:BQ B pE w E:=(BQ.ext Le.e).trans I;have J:Bk E b2 [.int .i64 0,.int .i64 0] 142:=(B2.mv (w:=C)).kept I (by decide)
 have F:l'.Perm (Dm x L):=by
  refine G.trans ((VE x l).trans ((X.cons x).trans (ZR x L).symm))
 have f:=jQ x hs;have Q4:Qu B E b most (Dm x L):=⟨⟨l',H,d,F⟩,f⟩;have a1:=cW x L;refine dD (λ_=>False) [0,2,3,4,5,1,6] λw5 e5=>?_;have K:=H.up (w':=w5);obtain⟨a5,c5,q5⟩:=K;refine tX q5.cell rfl nf (AA (zJ7 (Q4.up (w':=w5))) ?_);rintro v p ⟨rfl,e6⟩;refine⟨e6.e,?_⟩;refine ite (λM=>?_) (λKw=>?_)
 ·have o:Gx most L x=(Dm x L,zH,false):=by unfold Gx;rw[if_pos M]
  rw[o];refine AJ (cs:=enc zH) rfl (rE J zH λr B7 z _=>?_);have K7:BQ w.heap.size [142] p r:=(J.mv (w:=p)).wrote z t (by decide);have O:BQ B pE w r:=Fr.new (Fr.trans Z (fE E p)) z λi hi=>by omega
  refine AR rfl ?_;exact⟨rfl,(Q4.up (w':=p)).kept K7 (by decide) (by decide),O⟩
 ·have o:Gx most L x=((Dm x L).dropLast,(Dm x L).getLast?.getD zH,true):=by unfold Gx;rw[if_neg Kw]
  rw[o];have U:l'≠[]:=by rintro rfl;have:=F.length_eq;simp at this;omega
  refine AA (zK1 (H.up (w':=p)) d U) ?_;rintro v r ⟨rfl,⟨l7,V,S7,W⟩,z⟩;have A:=tI sD d
  have c:=f.last (V.trans F) (λy hy=>by
   have K:=QI.1 (F.mem_iff.2 hy);obtain⟨i,hi,rfl⟩:=K;have:=A i hi;rw[N2 hi]at this;exact this)
  rw[c.1];have C7:=(J.mv (w:=p)).kept z (by decide);have O:BQ B pE w r:=(Z.trans (BQ.ext Le.e)).trans z;refine rE C7 (CA l' 0) λw8 B8 f8 _=>?_;have K8:BQ w.heap.size [142] r w8:=C7.wrote f8 t (by decide);have F8:BQ B pE w w8:=Fr.new O f8 λi hi=>by omega
  have Q7:Qu B r b most (Dm x L).dropLast:=⟨⟨l7,S7,W,c.2⟩,f.sublist (List.dropLast_sublist _)⟩;refine AR rfl ?_;exact⟨rfl,Q7.kept K8 (by decide) (by decide),F8⟩
theorem y0{c:Nat}{l:List AG}(h:AQ w (.slice a n c) l)(x:l.length<=1000000):Sp PP 405 #[.slice a n c] w λv w'=>AD w.heap.size 499 w' v l/\AC w w':=by
 have p:=h.len;obtain rfl:=p;refine eN ?_;refine LC (λe=>?_) (λe=>?_)
 ·have r:l=[]:=by
   obtain⟨y,z,t,_,d⟩:=h;cases t;rcases d with d|⟨b,o,hb,_⟩
   ·exact d
   ·rw[e]at hb;cases hb
  subst r;exact⟨AD.nil _ _ _,stp⟩
 ·refine LE (α:=AG) [] rfl (vs:=[]) rfl rfl (by decide) λA w1 n1 _=>?_;have C:AC w w1:=⟨n1.ext⟩;refine NI (u:=w) ⟨rfl,rfl⟩ (AD.nil' _ 499 _ _) (h.up (w':=w1)) (by simp;omega) λE F f G H=>?_;rw[Je]at f;exact⟨f,stp⟩
instance:Inhabited AG:=⟨zH⟩
theorem xA:Go.Sort.SWO (ltOf Mm):=by
 have h:=Lp;refine⟨λx=>?_,λx y z b c=>?_,λx y z b c=>?_⟩<;>simp only[ltOf,decide_eq_false_iff_not,decide_eq_true_eq,h,gW]at *<;>omega
theorem zJ6{b:Nat}{most:Int}{L:List AG}(Q:Qu B w b most L):
  Sp PP 386 #[.pointer (some ⟨b,0,none⟩)] w λv w'=>AD w.heap.size 142 w' v L/\AC w w':=by
 obtain⟨⟨l,⟨a,c,q⟩,hh,G⟩,S⟩:=Q;have t:=G.length_eq;have U:=q.size;refine eN ?_;refine Dy (rX q.cell rfl (AA (y0 q.row.sl (by omega)) ?_));rintro v w1 ⟨H,e1⟩;have z:=H.shape;obtain⟨a1,c1,rfl⟩:=z;refine AA (W1 Tryz.sortH (k:=2) (show FZ PP 499 2 from inferInstance) rfl Mm xA (f:=406) rfl (λx y W=>mC) H (by omega)) ?_;rintro r p ⟨rfl,d,A,C,I,V⟩;have s2:Gl w w1 p:=Mu V
 have E:HW d:=C.imp λ{x y} h=>by
  cases X:AY y x with
  |false=>rfl
  |true=>exact(h ((Lp _ _).2 X)).elim
 have F:d=L:=E.uniq S (A.trans G);subst F;rw[t]at I ⊢;refine cO 19 [6] 4 19 d.length (λk v u=>AD p.heap.size 142 u v (d.take k)/\AC p u) ⟨AD.nil _ 142 _,stp⟩ ?_;rintro k v g u hk ⟨O,e⟩;refine ite (λJ=>?_) (λY=>?_)
 ·have o:k<d.length:=by omega
  refine Bv (I.sl.up (w':=u)) (x:=d[k]) (by simp) λb4 o4 Z=>Ai Z rfl (Ap λb5 u5 n5 K=>rE K (d[k]) λu6 B6 M _=>?_);have s6:AC u u6:=n5.st M;clear K M;refine rG B6 (d[k]) (HS d[k] rfl rfl (by decide) λb7 u7 e7 _ S7=>Ax (u:=p) ⟨rfl,rfl⟩ (O.up (w':=u7)) S7 (by rw[Qm];omega) λv8 u8 O8 f8 s8=>rA ⟨rfl,o,?_,stp⟩);rw[Cs o];exact O8
 ·have z:k=d.length:=by omega
  obtain rfl:=z;rw[Qg]at O;exact⟨O.older,stp⟩
def Ei (k:Int) (l:List AG):List AG:=l.foldl (λL x=>(Gx k L x).1) []
theorem zNc(k:Int)(l:List AG):(Ei k l).length<=l.length:=by
 have:∀(l L:List AG),(l.foldl (λL x=>(Gx k L x).1) L).length<=L.length+l.length:=by
  intro l
  induction l with
  |nil=>intro L;simp
  |cons x r b=>intro L;rw[JY];have:=b (Gx k L x).1;have:=zPg (most:=k) (L:=L) (x:=x);simp;omega
 have:=this l [];unfold Ei;simpa using this
theorem yQ{k:Int}{l:List AG}(h:i<l.length):Ei k (l.take (i+1))=(Gx k (Ei k (l.take i)) l[i]).1:=by
 unfold Ei;rw[Cs h,VF];rfl
theorem zJG{c:Nat}{l:List AG}{k:Int}(h:AQ w (.slice a n c) l)(M:l.length<=1000):
  Sp PP 337 #[.slice a n c,.int .i64 k] w λv w'=>AD w.heap.size 142 w' v (if k<1 then[] else Ei k l)/\AC w w':=by
 have f:=h.len;obtain rfl:=f;refine eN ?_;refine ite (λo=>?_) (λo=>?_)
 ·rw[if_pos o];exact⟨AD.nil _ _ _,stp⟩
 rw[if_neg o];refine AJ (cs:=[.slice none 0 0,.int .i64 k]) rfl (BM λb w1 n1 A=>?_);have C:Qu w.heap.size w1 b k (Ei k (l.take 0)):=⟨⟨[],⟨none,0,n1.lo,A,AD.nil _ _ _,by simp⟩,λc c0 E=>absurd E (by simp),.refl _⟩,.nil⟩;refine cN 15 [7] 15 l.length (λi u=>Qu w.heap.size u b k (Ei k (l.take i))/\AC w u) ⟨C,stp⟩ ?_;rintro i g u hi ⟨Q,e⟩;refine ite (λr=>?_) (λF=>?_)
 ·have d:i<l.length:=by omega
  refine Bv (h.up (w':=u)) (x:=l[i]) (by simp) λO S G=>Ai G rfl (Ap λU V n5 t=>rE t (l[i]) λy H z _=>?_);have W:AC u y:=n5.st z;clear t z;have p:=zNc k (l.take i);rw[Qm]at p;refine rG H (l[i]) (AA (zJ8 (x:=l[i]) (Q.up (w':=y)) (by omega)) ?_);rintro v I ⟨rfl,J,K⟩;have X:AC w I:=⟨BQ.st Le.e K (Qe _)⟩;refine rA ⟨rfl,d,?_,stp⟩;rw[yQ d];exact J
 ·have f:i=l.length:=by omega
  obtain rfl:=f;rw[Qg]at Q;refine AA (zJ6 Q) ?_;rintro v Y ⟨L,Z⟩;exact⟨L.older,stp⟩
def Wa (l:List AG):List AG:=l.foldl (λL x=>Dm x L) []
theorem zNx(l:List AG):HW (Wa l)/\(Wa l).Perm l:=by
 have:∀(l L:List AG),HW L->HW (l.foldl (λL x=>Dm x L) L)/\(l.foldl (λL x=>Dm x L) L).Perm (L++l):=by
  intro l
  induction l with
  |nil=>intro L h;exact⟨h,by simp⟩
  |cons x r b =>
   intro L h;rw[JY];have:=b (Dm x L) (jQ x h);exact⟨this.1,this.2.trans (((ZR x L).append_right r).trans List.perm_middle.symm)⟩
 have h:=this l [] .nil;exact⟨h.1,h.2⟩
theorem vK(x:AG):∀(l:List AG) (n:Nat),(Dm x l).take n=(Dm x (l.take n)).take n
 |[],n=>by simp
 |y::r,0=>by simp
 |y::r,n+1=>by
  rw[Vd];unfold Dm;split
  ·rw[Vd,Vd];congr 1
   cases n with
   |zero=>simp
   |succ m=>rw[Vd,Vd,Xz,VB (by omega)]
  ·rw[Vd,Vd,vK x r n]
theorem wX(b:k=n){M:List AG}(c:M.length<=n)(x:AG):(Gx (k:Int) M x).1=(Dm x M).take n:=by
 subst b;unfold Gx;have d:=cW x M;split
 ·rw[Qj (by omega)]
 ·rw[XO,show(Dm x M).length - 1=k by omega]
theorem zLN(k:Nat)(l:List AG):Ei (k:Int) l=(Wa l).take k:=by
 have:∀(l L M:List AG),M=L.take k->l.foldl (λL x=>(Gx (k:Int) L x).1) M=(l.foldl (λL x=>Dm x L) L).take k:=by
  intro l
  induction l with
  |nil=>intro L M h;exact h
  |cons x r b =>
   intro L M h;rw[JY,JY];refine b (Dm x L) _ ?_;subst h;rw[wX rfl (by rw[Qm];omega),<-vK]
 exact this l [] [] (by simp)
def uX (s:U8) (a:Int) (v:Value):Prop:=
 (∃A n:Nat,a=(A:Int)/\FP s A n/\v=.tuple #[.int .i64 (n:Nat),.int .i64 ((A+(AL n).length:Nat):Int),.bool true]) \/
 ((∀A n:Nat,a=(A:Int)->¬FP s A n)/\v=.tuple #[.int .i64 0,.int .i64 0,.bool false])
theorem zQr{a:Nat}(h:FP s a n):a<s.length:=by
 obtain⟨_,t,b⟩:=h;have:=congrArg List.length b;have:=JI.2 (jT n);simp at *;omega
theorem Na(s:U8)(a b:Nat):(⟨s.toArray⟩:ByteArray).extract a b=⟨((s.drop a).take (b - a)).toArray⟩:=by
 apply ByteArray.ext;rw[ByteArray.data_extract];simp
def BW (l:List Int):U8:=l.flatMap λn=>if 0<=n/\n<=2147483647 then AL n.toNat else[]
theorem zNm(l:List Int)(n:Int):BW (l++[n])=BW l++if 0<=n/\n<=2147483647 then AL n.toNat else[]:=by simp[BW]
theorem zNn{l:List Int}(h:k<l.length):BW (l.take (k+1))=BW (l.take k)++if 0<=l[k]/\l[k]<=2147483647 then AL l[k].toNat else[]:=by
 rw[Cs h,zNm]
theorem T8(l:List Int):(BW l).length<=5*l.length:=by
 induction l with
 |nil=>simp[BW]
 |cons n r b =>
  have:BW (n::r)=(if 0<=n/\n<=2147483647 then AL n.toNat else[])++BW r:=by simp[BW]
  rw[this,Qb,QA];split
  ·have:=LH (n:=n.toNat) (by omega);omega
  ·simp;omega
theorem SE(a b:U8):(⟨a.toArray⟩:ByteArray)++⟨b.toArray⟩=⟨(a++b).toArray⟩:=by
 apply ByteArray.ext;rw[ByteArray.data_append];simp
theorem NX(b:Bool):∀u∈[Value.bool b],u.oneCell'=true:=by intro u c;simp at c;subst c;rfl
theorem HT(x:Int):∀u∈[Value.int .i64 x],u.oneCell'=true:=by intro u b;simp at b;subst b;rfl
structure NN where
 found:Bool
 num:Int
 s:SV
structure CG where
 id:Int
 code:Int
 a:NN
instance:AK NN:=⟨3,λx=>[.bool x.found,.int .i64 x.num,.slice x.s.a x.s.n x.s.c],λ_=>rfl,by intro x u hu;simp at hu;rcases hu with rfl|rfl|rfl<;>rfl,by decide⟩
instance:AK CG:=⟨5,λx=>[.int .i64 x.id,.int .i64 x.code,.bool x.a.found,.int .i64 x.a.num,.slice x.a.s.a x.a.s.n x.a.s.c],λ_=>rfl,by intro x u hu;simp at hu;rcases hu with rfl|rfl|rfl|rfl|rfl<;>rfl,by decide⟩
def Ey (h:AG):Prop:=0<=h.v/\h.v<200/\0<=h.d/\h.d<=200
def BG (x:CG) (l:List AG):Prop:=
 (0<=x.id/\x.id<=2147483647)/\(0<=x.code/\x.code<=1000)/\(0<=x.a.num/\x.a.num<=400)/\l.length<=100 /\
 (x.code≠0->x.a.found=false/\x.a.num=0/\l=[])/\(x.a.found=false->x.a.num=0/\l=[])/\(l=[]\/x.a.num=0)/\∀h∈l,Ey h
def Aq (l:List AG):U8:=l.flatMap λh=>BW [h.v,h.d]
def DM (x:CG) (l:List AG):U8:=BW [x.id,x.code]++if x.code≠0 then[] else BW [if x.a.found then 1 else 0,x.a.num,(l.length:Int)]++Aq l
theorem zNh{l:List AG}{y:AG}(h:l[k]? = some y):Aq (l.take (k+1))=Aq (l.take k)++BW [y.v,y.d]:=by
 have b:=(Qy.1 h).1
 have:l.take (k+1)=l.take k++[y]:=by
  rw[Cs b];rw[Qd b]at h;cases h;rfl
 rw[this];simp[Aq]
theorem rJ(l:List AG):(Aq l).length<=10*l.length:=by
 induction l with
 |nil=>simp[Aq]
 |cons h r b =>
  have e:Aq (h::r)=BW [h.v,h.d]++Aq r:=by simp[Aq]
  have:=T8 [h.v,h.d];rw[e,Qb,QA];simp at this;omega
open Go
def Hr:List Int->Option Int
 |[]=>none
 |x::r=>match Hr r with
  |none=>some x
  |some y=>some (min x y)
theorem xL{l:List Int}:Hr l=none↔l=[]:=by
 cases l with
 |nil=>simp[Hr]
 |cons x r=>unfold Hr;cases Hr r<;>simp
theorem vR{l:List Int}{m:Int}:Hr l=some m↔m∈l/\∀y∈l,m<=y:=by
 induction l generalizing m with
 |nil=>simp[Hr]
 |cons x r o =>
  unfold Hr
  cases d:Hr r with
  |none =>
   have:=xL.1 d;subst this;simp only[JK,Qc,forall_eq];exact⟨λh=>⟨h.symm,by omega⟩,λh=>h.1.symm⟩
  |some y =>
   have b:=o.1 d;obtain⟨e,f⟩:=b;simp only[JK,Ql,forall_eq_or_imp];constructor
   ·rintro rfl;refine⟨?_,Int.min_le_left _ _,λz p=>Int.le_trans (Int.min_le_right _ _) (f z p)⟩;have b:=Int.le_total x y;rcases b with h|h
    ·exact .inl (Int.min_eq_left h)
    ·right;rw[Yk h];exact e
   ·rintro⟨c,t,h5⟩;have:=h5 y e;rcases c with rfl|c
    ·omega
    ·have:=f m c;omega
def Ki (S:List AN):List Int:=S.flatMap λx=>if x.key.dir=0 then(S.filter λy=>decide (y.key.dir=1/\y.key.v=x.key.v)).map λy=>x.d+y.d else[]
theorem dH{S:List AN}{m:Int}:m∈Ki S↔∃x∈S,∃y∈S,x.key.dir=0/\y.key.dir=1/\y.key.v=x.key.v/\m=x.d+y.d:=by
 unfold Ki;simp only[VP];constructor
 ·rintro⟨x,e,h⟩;split at h
  ·rename_i h0;have f:=Qq.1 h;obtain⟨y,b,rfl⟩:=f;have f:=QC.1 b;obtain⟨b,c⟩:=f;simp only[decide_eq_true_eq]at c;exact⟨x,e,y,b,h0,c.1,c.2,rfl⟩
  ·cases h
 ·rintro⟨x,e,y,b,h0,c,l,rfl⟩;refine⟨x,e,?_⟩;rw[if_pos h0];exact Qq.2 ⟨y,QC.2 ⟨b,by simp[c,l]⟩,rfl⟩
structure Gk where
 found:Bool
 num:Int
 hits:List AG
deriving DecidableEq
def ER:Gk:=⟨false,0,[]⟩
def Eg (M:List AN) (d:Int):Bool:=M.any λm=>decide (m.key.dir=d)
def CN (k:Int) (l:List AG):List AG:=if k<1 then[] else Ei k l
def CR (pl:List Int) (S:List AN):List AG:=(S.filter λx=>decide (x.key.dir=0) && pl.contains x.key.v).map λx=>⟨x.key.v,x.d⟩
def MT (S M:List AN):Gk×Bool:=match Hr (Ki S) with
 |some m=>(⟨true,m,[]⟩,true)
 |none=>(ER,!Eg M 0 || !Eg M 1)
def HU (to:Int) (S M:List AN):Gk×Bool:=
 if S.any λx=>decide (x.key.dir=0/\x.key.v=to) then(⟨true,0,[]⟩,true) else(ER,M.isEmpty)
def KF (pl:List Int) (most:Int) (S M:List AN):Gk×Bool:=
 if M.isEmpty then(⟨!(CN most (CR pl S)).isEmpty,0,CN most (CR pl S)⟩,true) else(ER,false)
def Af (g:An) (ws:List ByteArray):List Int:=((List.range g.n).filter λv=>ws.all λs=>(g.ws.getD v []).contains s).map λv:Nat=>(v:Int)
def Az (g:An) (q:FX) (S M:List AN):Gk×Bool:=
 if q.kind=1 then MT S M else if q.kind=2 then HU q.to S M else if q.kind=3 then KF (Af g q.words) q.most S M else(ER,true)
structure DN where
 workers:Nat
 slots:Nat
 queue:Nat
 pool:Nat
 budget:Nat
structure Bt where
 id:Int
 kind:Int
 q:FX
structure ES where
 wait:List Bt
 held:List (Option (Bt×Nat))
def Dt (W:Nat) (v:Int):Int:=(v*40503+12345) % 65536 % W
def Hj (g:An) (h:Option (Bt×Nat)) (at':Nat):List AN:=match h with
 |some (x,i)=>sts g x.q at' i
 |none=>[]
def GD (g:An) (h:List (Option (Bt×Nat))):List AN:=(List.range h.length).flatMap λk=>Hj g (h.getD k none) k
def DG (g:An) (W:Nat) (h:List (Option (Bt×Nat))) (w:Nat):Nat:=((GD g h).filter λx=>decide (Dt W x.key.v=w)).length
def CX (g:An) (c:DN) (h:List (Option (Bt×Nat))):Bool:=(List.range c.workers).any λw=>decide (c.pool<DG g c.workers h w)
def BN (id code:Int) (a:Gk):CG:=⟨id,code,⟨a.found,a.num,⟨none,0,0⟩⟩⟩
open Classical in
noncomputable def Gp (id code:Int) (a:Gk):U8:=if BG (BN id code a) a.hits then DM (BN id code a) a.hits else[]
noncomputable def Ah (g:An) (c:DN) (h:List (Option (Bt×Nat))) (k:Nat):List (Option (Bt×Nat))×Option (U8):=
 match h.getD k none with
 |none=>(h,none)
 |some (x,i) =>
  if CX g c (h.set k (some (x,i+1))) then(h.set k none,some (Gp x.id 250 ER))
  else if(Az g x.q (sts g x.q k (i+1)) (Cf g x.q k (i+1))).2 then(h.set k none,some (Gp x.id 0 (Az g x.q (sts g x.q k (i+1)) (Cf g x.q k (i+1))).1))
  else if c.budget<=i+1 then(h.set k none,some (Gp x.id 251 ER))
  else(h.set k (some (x,i+1)),none)
def Av (h:List (Option (Bt×Nat))):List Nat:=Dj (λk=>(h.getD k none).isSome) h.length
def Hi (h:List (Option (Bt×Nat))):Option Nat:=h.findIdx? λx=>x.isNone
def BS:List Bt->List (Option (Bt×Nat))->List Bt×List (Option (Bt×Nat))
 |[],h=>([],h)
 |x::r,h=>match Hi h with
  |some k=>BS r (h.set k (some (x,0)))
  |none=>(x::r,h)
noncomputable def BF (g:An) (c:DN):List Nat->List (Option (Bt×Nat))->List (Option (Bt×Nat))×List (U8)
 |[],h=>(h,[])
 |k::r,h=>((BF g c r (Ah g c h k).1).1,(Ah g c h k).2.toList++(BF g c r (Ah g c h k).1).2)
noncomputable def Eq (g:An) (c:DN) (s:ES):ES×List (U8):=
 (⟨(BS s.wait s.held).1,(BF g c (Av (BS s.wait s.held).2) (BS s.wait s.held).2).1⟩,(BF g c (Av (BS s.wait s.held).2) (BS s.wait s.held).2).2)
def Dh (h:List (Option (Bt×Nat))) (id:Int):Option Nat:=h.findIdx? λx=>match x with
 |some (r,_)=>decide (r.id=id)
 |none=>false
def EK (l:List Bt) (id:Int):Option Nat:=l.findIdx? λr=>decide (r.id=id)
def DJ (s:ES) (id:Int):ES×Int:=match EK s.wait id with
 |some k=>(⟨s.wait.eraseIdx k,s.held⟩,253)
 |none=>match Dh s.held id with
  |some k=>(⟨s.wait,s.held.set k none⟩,253)
  |none=>(s,141)
open Classical in
noncomputable def DU (g:An) (c:DN) (s:ES) (x:Bt) (ok:Prop):ES×Int:=
 if ok then(if(Dh s.held x.id).isSome then(s,150) else if(EK s.wait x.id).isSome then(s,150) else if c.queue<=s.wait.length then(s,252) else(⟨s.wait++[x],s.held⟩,0)) else(s,180)
open Classical in
noncomputable def EH (r:U8):Option (Nat×U8):=if h:∃p:Nat×U8,p.1<=2147483647/\r=AL p.1++p.2 then some h.choose else none
theorem Yq{r t:U8}:EH r=some (n,t)↔n<=2147483647/\r=AL n++t:=by
 unfold EH;split
 ·rename_i h;have b:=h.choose_spec;constructor
  ·intro e;rw[QL e]at b;exact b
  ·rintro⟨_,c⟩;have e:=Hw (b.2.symm.trans c);congr 1;exact Prod.ext e.1 e.2
 ·rename_i h;exact⟨(λe=>(by cases e)),λe=>absurd ⟨(n,t),e⟩ h⟩
theorem zPi{r:U8}:EH r=none↔∀(n:Nat) (t:U8),n<=2147483647->r≠AL n++t:=by
 constructor
 ·intro h n t b c;rw[Yq.2 ⟨b,c⟩]at h;cases h
 ·intro h
  cases e:EH r with
  |none=>rfl
  |some p=>obtain⟨b,c⟩:=Yq.1 e;exact absurd c (h _ _ b)
theorem NM(h:n<=2147483647)(t:U8):EH (AL n++t)=some (n,t):=Yq.2 ⟨h,rfl⟩
noncomputable def GT (r:U8):Option (U8×U8):=match EH r with
 |some (n,t)=>if n<=4000/\n<=t.length then some (t.take n,t.drop n) else none
 |none=>none
def Ae {α:Type} (f:U8->Option (α×U8)):Nat->U8->Option (List α×U8)
 |0,r=>some ([],r)
 |k+1,r=>match f r with
  |none=>none
  |some (x,t)=>match Ae f k t with
   |none=>none
   |some (l,u)=>some (x::l,u)
def Gt {α:Type} (acc:List α) (o:Option (List α×U8)):Option (List α×U8):=o.map λp=>(acc++p.1,p.2)
section
variable {α:Type} {f:U8->Option (α×U8)}
theorem dR(o:Option (List α×U8)):Gt [] o=o:=by cases o<;>simp[Gt]
theorem Zq{r:U8}(h:f r=none):Ae f (k+1) r=none:=by simp[Ae,h]
theorem TM{r t:U8}{x:α}(h:f r=some (x,t))(b:List α):Gt b (Ae f (k+1) r)=Gt (b++[x]) (Ae f k t):=by
 simp only[Ae,h]
 cases Ae f k t with
 |none=>rfl
 |some p=>simp[Gt]
end
noncomputable def DO (r:U8):Option (List Nat×U8):=match EH r with
 |some (n,t)=>if n<=4000 then Ae EH n t else none
 |none=>none
noncomputable def EM (r:U8):Option (List (U8)×U8):=match EH r with
 |some (n,t)=>if n<=8 then Ae GT n t else none
 |none=>none
noncomputable def GQ (r:U8):Option ((List Nat×List (U8))×U8):=match DO r with
 |some (l,t)=>match EM t with
  |some (w,u)=>some ((l,w),u)
  |none=>none
 |none=>none
def AS (l:U8):ByteArray:=⟨l.toArray⟩
theorem ST{a b:U8}(h:AS a=AS b):a=b:=by simp_all[AS]
def BE:Nat->List (List Nat)->List BP
 |_,[]=>[]
 |v,l::r=>l.map (λt=>⟨v,t⟩)++BE (v+1) r
theorem wE(l:List Nat):∀(b:List (List Nat)) (v:Nat),BE v (b++[l])=BE v b++l.map λt=>⟨v+b.length,t⟩
 |[],v=>by simp[BE]
 |r::b,v=>by
  rw[VO,BE,wE l b (v+1),BE,Qp,QA,show v+1+b.length=v+(b.length+1) by omega]
def Lv (n:Nat) (ps:List (List Nat×List (U8))):An:=⟨n,BE 0 (ps.map (·.1)),ps.map λp=>p.2.map AS⟩
def Fv (s:ByteArray):Prop:=(∀c∈s.data.toList,97<=c.toNat/\c.toNat<=122)/\1<=s.size/\s.size<=12
def Dl (a b:BP):Prop:=a.f<b.f\/a.f=b.f/\a.t<b.t
def Ct (a b:ByteArray):Prop:=a.data.toList<b.data.toList
structure Bb (g:An):Prop where
 ok:NU g
 ne:g.es.length<=2000
 nw:g.ws.length=g.n
 word:∀l∈g.ws,l.length<=8/\∀s∈l,Fv s
 er:g.es.Pairwise Dl
 wr:∀l∈g.ws,l.Pairwise Ct
noncomputable def WG (s:U8):Option (Nat×List (List Nat×List (U8))×U8):=match s with
 |119::103::r=>match EH r with
  |some (n,t)=>if n<=200 then(match Ae GQ n t with|some (ps,u)=>some (n,ps,u)|none=>none) else none
  |none=>none
 |_=>none
open Classical in
noncomputable def Ea (s:U8):Option An:=match WG s with
 |some (n,ps,u)=>if u=[]/\Bb (Lv n ps) then some (Lv n ps) else none
 |none=>none
theorem zOY(h:Ea s=some g):Bb g:=by
 unfold Ea at h;split at h
 ·split at h
  ·rename_i b;cases h;exact b.2
  ·cases h
 ·cases h
noncomputable def Kq (kind:Nat) (r:U8):Option (FX×U8):=match EH r with
 |none=>none
 |some (a,r1) =>
  if kind<=2 then(match EH r1 with
   |none=>none
   |some (b,r2)=>some (⟨kind,a,b,[],0,0⟩,r2))
  else match EM r1 with
   |none=>none
   |some (ws,r2)=>match EH r2 with
    |none=>none
    |some (x,r3)=>match EH r3 with
     |none=>none
     |some (y,r4)=>some (⟨kind,a,0,ws.map AS,x,y⟩,r4)
def L3:FX:=⟨0,0,0,[],0,0⟩
noncomputable def Mh (s:U8):Option (Bt×U8):=match EH s with
 |none=>none
 |some (id,r1)=>match EH r1 with
  |none=>none
  |some (k,r2)=>if k<=4 then(if k=4 then some (⟨id,4,L3⟩,r2) else match Kq k r2 with
   |none=>none
   |some (q,r3)=>some (⟨id,k,q⟩,r3)) else none
def CD (q:FX) (n:Int):Prop:=(q.kind=1\/q.kind=2\/q.kind=3)/\(0<=q.frm/\q.frm<n)/\(q.kind<3->0<=q.to/\q.to<n) /\
 (q.kind=3->(1<=q.words.length/\q.words.length<=8)/\(0<=q.rad/\q.rad<=200)/\(1<=q.most/\q.most<=100)/\∀s∈q.words,Fv s)
theorem CD.ok(h:CD q n):LZ q n:=⟨h.1,h.2.1,h.2.2.1,λk=>by have:=h.2.2.2 k;omega⟩
def Eo (x:Bt):Prop:=(x.kind=4\/x.q.kind=x.kind/\CD x.q 200)/\(0<=x.id/\x.id<=2147483647) /\
 (if x.kind=4 then x.q=L3 else if x.kind=3 then x.q.to=0 else x.q.words=[]/\x.q.rad=0/\x.q.most=0)
open Classical in
noncomputable def Dp (s:U8):Option Bt:=match Mh s with
 |some (x,[])=>if Eo x then some x else none
 |_=>none
noncomputable def LY (s:U8):Option Nat:=(EH s).map (·.1)
theorem uC{x:Bt}(h:Dp s=some x):Eo x:=by
 unfold Dp at h;split at h
 ·split at h
  ·rename_i b;cases h;exact b
  ·cases h
 ·cases h
noncomputable def Hd (g:An) (c:DN) (s:ES) (f:U8):ES×Option (U8):=match Dp f with
 |none=>match LY f with
  |none=>(s,none)
  |some id=>(s,some (Gp id 220 ER))
 |some x=>if x.kind=4 then((DJ s x.id).1,some (Gp x.id (DJ s x.id).2 ER))
  else if(DU g c s x (CD x.q g.n)).2=0 then((DU g c s x (CD x.q g.n)).1,none) else(s,some (Gp x.id (DU g c s x (CD x.q g.n)).2 ER))
abbrev Hs:=List (Option (Bt×Nat))
theorem zOv{f f':Nat->Nat}(h:∀j,j≠k->f' j=f j):∀n,k<n->((List.range n).map f').sum+f k=((List.range n).map f).sum+f' k:=by
 intro n
 induction n with
 |zero=>intro d;omega
 |succ n e =>
  intro d;rw[Jm,QB,QB,XV,XV];simp only[QS,JP,List.sum_cons,List.sum_nil];have b:=QH k n;rcases b with c|c
  ·have:=e c;have:=h n (by omega);omega
  ·have b:k=n:=by omega
   obtain rfl:=b
   have:((List.range k).map f')=((List.range k).map f):=by
    apply Ja;intro j l;exact h j (by have:=Q0.1 l;omega)
   rw[this];omega
def Lh (g:An) (W:Nat) (w:Nat) (o:Option (Bt×Nat)) (k:Nat):Nat:=((Hj g o k).filter λx=>decide (Dt W x.key.v=w)).length
theorem fV(g:An)(W:Nat)(h:Hs)(w:Nat):DG g W h w=((List.range h.length).map λk=>Lh g W w (h.getD k none) k).sum:=by
 unfold DG GD Lh;rw[List.filter_flatMap,List.length_flatMap]
theorem RF{α:Type}{l:List α}{x z:α}(b:k<l.length):(l.set k x).getD j z=if j=k then x else l.getD j z:=by
 rw[Qk,Qk,Vw];by_cases e:k=j
 ·subst e;simp[b]
 ·simp[e,Jq e]
theorem jV{W w:Nat}{h:Hs}(b:k<h.length)(o:Option (Bt×Nat)):DG g W (h.set k o) w+Lh g W w (h.getD k none) k=DG g W h w+Lh g W w o k:=by
 rw[fV,fV,Jc];have:=zOv (f:=λk=>Lh g W w (h.getD k none) k) (f':=λj=>Lh g W w ((h.set k o).getD j none) j) (k:=k) (λj c=>by simp only[RF b,if_neg c]) h.length b;have e:(h.set k o).getD k none=o:=by rw[RF b,if_pos rfl]
 rw[e]at this;exact this
theorem zOJ(g:An)(W w k:Nat):Lh g W w none k=0:=rfl
theorem tB(g:An)(W w k:Nat)(x:Bt):Lh g W w (some (x,0)) k=0:=rfl
theorem ZD{c:DN}{h:Hs}:CX g c h=true↔∃w,w<c.workers/\c.pool<DG g c.workers h w:=by
 simp[CX]
theorem Yr{c:DN}{h b:Hs}(e:∀w,DG g c.workers b w<=DG g c.workers h w)(d:CX g c h=false):CX g c b=false:=by
 rw[<-Vy,ZD]at d ⊢;rintro⟨w,f,l⟩;exact d ⟨w,f,by have:=e w;omega⟩
theorem eV{W:Nat}{h:Hs}(b:k<h.length)(w:Nat):DG g W (h.set k none) w<=DG g W h w:=by
 have:=jV (g:=g) (W:=W) (w:=w) b none;rw[zOJ]at this;omega
def Cn (l:List Bt):List Int:=l.map (·.id)
def Bg (h:Hs):List Int:=h.filterMap λo=>o.map (·.1.id)
structure Uc (g:An) (x:Bt):Prop where
 q:CD x.q g.n
 id:0<=x.id/\x.id<=2147483647
structure DX (g:An) (c:DN) (s:ES):Prop where
 len:s.held.length=c.slots
 wl:s.wait.length<=c.queue
 wait:∀x∈s.wait,Uc g x
 held:∀x i,some (x,i)∈s.held->Uc g x/\i<c.budget
 ids:(Bg s.held++Cn s.wait).Nodup
 pool:CX g c s.held=false
structure Km (c:DN):Prop where
 workers:1<=c.workers/\c.workers<=16
 slots:1<=c.slots/\c.slots<=64
 queue:1<=c.queue/\c.queue<=1000
 pool:1<=c.pool/\c.pool<=400
 budget:1<=c.budget/\c.budget<=1000
theorem xU{h:Hs}{id:Int}:id∈Bg h↔∃x i,some (x,i)∈h/\x.id=id:=by
 unfold Bg;rw[List.mem_filterMap];constructor
 ·rintro⟨o,b,e⟩
  cases o with
  |none=>cases e
  |some p=>exact⟨p.1,p.2,b,QL e⟩
 ·rintro⟨x,i,c,rfl⟩;exact⟨_,c,rfl⟩
theorem eA{h:Hs}(b:k<h.length)(o:Option (Bt×Nat)):Bg (h.set k o)=Bg (h.take k)++(o.map (·.1.id)).toList++Bg (h.drop (k+1)):=by
 rw[Vn,if_pos b];unfold Bg;rw[XP,List.filterMap_cons,Qp];cases o<;>simp
theorem iQ{h:Hs}(b:k<h.length):Bg h=Bg (h.take k)++((h.getD k none).map (·.1.id)).toList++Bg (h.drop (k+1)):=by
 have:=eA b (h.getD k none)
 have e:h.set k (h.getD k none)=h:=by
  rw[Qk,Qd b];simp
 rw[e]at this;exact this
theorem oZ{h:Hs}(b:k<h.length){x:Bt}(e:h.getD k none=some (x,i)):Bg (h.set k (some (x,j)))=Bg h:=by
 rw[eA b,iQ b,e];rfl
theorem eC{h:Hs}(b:k<h.length){x:Bt}(e:h.getD k none=some (x,i)):(x.id::Bg (h.set k none)).Perm (Bg h):=by
 rw[eA b,iQ b,e];simp only[Option.map_none,Option.toList_none,QE,JD,Option.toList_some,Qp,List.singleton_append];exact List.perm_middle.symm
theorem mJ{h:Hs}(b:k<h.length)(e:h.getD k none=none)(x:Bt)(i:Nat):(x.id::Bg h).Perm (Bg (h.set k (some (x,i)))):=by
 rw[eA b,iQ b,e];simp only[Option.map_none,Option.toList_none,QE,JD,Option.toList_some,Qp,List.singleton_append];exact List.perm_middle.symm
theorem PR{h:Hs}{p:Bt×Nat}(e:h.getD k none=some p):k<h.length/\some p∈h:=by
 have c:=QH k h.length;rcases c with b|b
 ·refine⟨b,?_⟩;rw[Qk,Qd b]at e;exact e ▸ Qa b
 ·rw[Qk,Jg b]at e;cases e
theorem Wm{h:Hs}{o:Option (Bt×Nat)}{x:Bt}(c:some (x,i)∈h.set k o):some (x,i)∈h\/o=some (x,i):=by
 have d:=List.mem_or_eq_of_mem_set c;rcases d with b|b
 ·exact .inl b
 ·exact .inr b.symm
theorem iP{h:Hs}(e:Hi h=some k):k<h.length/\h.getD k none=none:=by
 unfold Hi at e;rw[JB]at e;obtain⟨b,c,_⟩:=e;refine⟨b,?_⟩;rw[Qk,Qd b];simpa using c
theorem kK{c:DN}(o:Km c):∀(l:List Bt) (h:Hs),DX g c ⟨l,h⟩->DX g c ⟨(BS l h).1,(BS l h).2⟩/\(Bg (BS l h).2++Cn (BS l h).1).Perm (Bg h++Cn l)
 |[],h,s=>⟨s,.refl _⟩
 |x::r,h,s=>by
  unfold BS
  cases e:Hi h with
  |none=>exact⟨s,.refl _⟩
  |some k =>
   have b:=iP e;obtain⟨p,v⟩:=b
   have t:(Bg (h.set k (some (x,0)))++Cn r).Perm (Bg h++Cn (x::r)):=by
    refine((mJ p v x 0).symm.append_right _).trans ?_;show(x.id::Bg h++Cn r).Perm (Bg h++(x.id::Cn r));exact List.perm_middle.symm
   have s':DX g c ⟨r,h.set k (some (x,0))⟩:=by
    refine⟨by simpa using s.len,by have:=s.wl;simp at this ⊢;omega,λy d=>s.wait y (QF _ d),λy i d=>?_,t.nodup_iff.2 s.ids,?_⟩
    ·have b:=Wm d;rcases b with f|f
     ·exact s.held y i f
     ·cases f;exact⟨s.wait x Qs,by have:=o.budget.1;omega⟩
    ·refine Yr (λw=>?_) s.pool;have:=jV (g:=g) (W:=c.workers) (w:=w) p (some (x,0));rw[tB]at this;dsimp only;omega
   have:=kK o r _ s';exact⟨this.1,this.2.trans t⟩
theorem nK{c : DN}{h : Hs} : (h.getD k none = none /\ Ah g c h k = (h, none)) \/ ∃ x i, h.getD k none = some (x, i) /\
    ((CX g c (h.set k (some (x, i + 1))) = true /\ Ah g c h k = (h.set k none, some (Gp x.id 250 ER))) \/
     (CX g c (h.set k (some (x, i + 1))) = false /\ (Az g x.q (sts g x.q k (i + 1)) (Cf g x.q k (i + 1))).2 = true /\ Ah g c h k = (h.set k none, some (Gp x.id 0 (Az g x.q (sts g x.q k (i + 1)) (Cf g x.q k (i + 1))).1))) \/
     (CX g c (h.set k (some (x, i + 1))) = false /\ (Az g x.q (sts g x.q k (i + 1)) (Cf g x.q k (i + 1))).2 = false /\ c.budget <= i + 1 /\ Ah g c h k = (h.set k none, some (Gp x.id 251 ER))) \/
     (CX g c (h.set k (some (x, i + 1))) = false /\ (Az g x.q (sts g x.q k (i + 1)) (Cf g x.q k (i + 1))).2 = false /\ i + 1 < c.budget /\ Ah g c h k = (h.set k (some (x, i + 1)), none))) := by
  unfold Ah
  cases e : h.getD k none with
  | none => exact .inl ⟨rfl, rfl⟩
  | some p =>
    obtain⟨x, i⟩ := p;refine .inr ⟨x, i, rfl, ?_⟩;dsimp only;by_cases f : CX g c (h.set k (some (x, i + 1))) = true
    · exact .inl ⟨f, by rw[if_pos f]⟩
    · right
      rw[if_neg f];have b : CX g c (h.set k (some (x, i + 1))) = false := by simpa using f
      by_cases l : (Az g x.q (sts g x.q k (i + 1)) (Cf g x.q k (i + 1))).2 = true
      · exact .inl ⟨b, l, by rw[if_pos l]⟩
      · right
        rw[if_neg l];have d : (Az g x.q (sts g x.q k (i + 1)) (Cf g x.q k (i + 1))).2 = false := by simpa using l
        by_cases o : c.budget <= i + 1
        · exact .inl ⟨b, d, o, by rw[if_pos o]⟩
        · exact .inr ⟨b, d, by omega, by rw[if_neg o]⟩
noncomputable def Ff (g:An) (c:DN) (h:Hs) (k:Nat):List Int:=match h.getD k none,(Ah g c h k).2 with
 |some (x,_),some _=>[x.id]
 |_,_=>[]
theorem jU{c:DN}{h:Hs}{l:List Bt}(k:Nat)(s:DX g c ⟨l,h⟩):DX g c ⟨l,(Ah g c h k).1⟩/\(Ff g c h k++Bg (Ah g c h k).1).Perm (Bg h):=by
 have d:=nK (g:=g) (c:=c) (h:=h) (k:=k);rcases d with⟨e,o⟩|⟨x,i,e,o⟩
 ·rw[o];refine⟨s,?_⟩;unfold Ff;rw[e];exact .refl _
 ·have d:=PR e;obtain⟨f,v⟩:=d;have z:=s.held x i v
  have drop:∀t,Ah g c h k=(h.set k none,some t)->DX g c ⟨l,(Ah g c h k).1⟩/\(Ff g c h k++Bg (Ah g c h k).1).Perm (Bg h):=λt A=>by
   unfold Ff;rw[A,e];refine⟨⟨by simpa using s.len,s.wl,s.wait,λy j p=>?_,?_,Yr (eV f) s.pool⟩,eC f e⟩
   ·have d:=Wm p;rcases d with b|b
    ·exact s.held y j b
    ·cases b
   ·have:=((eC f e).append_right (Cn l)).nodup_iff.2 s.ids;rw[VO,JC]at this;exact this.2
  rcases o with⟨_,b⟩|⟨_,_,b⟩|⟨_,_,_,b⟩|⟨C,_,hb,b⟩
  ·exact drop _ b
  ·exact drop _ b
  ·exact drop _ b
  ·unfold Ff;rw[b,e];refine⟨⟨by simpa using s.len,s.wl,s.wait,λy j p=>?_,by rw[oZ f e];exact s.ids,C⟩,by rw[oZ f e];exact .refl _⟩;have d:=Wm p;rcases d with r|r
   ·exact s.held y j r
   ·cases r;exact⟨z.1,hb⟩
noncomputable def LL (g:An) (c:DN):List Nat->Hs->List Int
 |[],_=>[]
 |k::r,h=>Ff g c h k++LL g c r (Ah g c h k).1
theorem sG{l:List Bt}{id:Int}(e:EK l id=some k):∃b:k<l.length,l[k].id=id:=by
 unfold EK at e;rw[JB]at e;obtain⟨b,c,_⟩:=e;exact⟨b,by simpa using c⟩
theorem tM{l:List Bt}{id:Int}:EK l id=none↔id∉Cn l:=by simp[EK,Cn]
theorem oT{h:Hs}{id:Int}(e:Dh h id=some k):∃x i,h.getD k none=some (x,i)/\x.id=id:=by
 unfold Dh at e;rw[JB]at e;obtain⟨c,b,_⟩:=e;split at b
 ·rename_i x i d;exact⟨x,i,by rw[Qk,Qd c,d];rfl,by simpa using b⟩
 ·cases b
theorem uK{h:Hs}{id:Int}:Dh h id=none↔id∉Bg h:=by
 unfold Dh;rw[Ve,xU];constructor
 ·rintro b ⟨x,i,d,e⟩;have:=b _ d;simp[e]at this
 ·intro b o c
  match o,c with
  |none,_=>rfl
  |some (x,i),c=>exact decide_eq_false λe=>b ⟨x,i,c,e⟩
theorem zP1{c:DN}{s:ES}(h:DX g c s)(id:Int):DX g c (DJ s id).1 /\
  ((∃e:(DJ s id).2=253,(id::(Bg (DJ s id).1.held++Cn (DJ s id).1.wait)).Perm (Bg s.held++Cn s.wait))\/((DJ s id).2=141/\(DJ s id).1=s/\id∉Bg s.held++Cn s.wait)):=by
 unfold DJ
 cases e:EK s.wait id with
 |some k =>
  have d:=sG e;obtain⟨p,f⟩:=d
  have r:(id::Cn (s.wait.eraseIdx k)).Perm (Cn s.wait):=by
   unfold Cn
   have l:(s.wait[k]::s.wait.eraseIdx k).Perm s.wait:=by
    rw[Jp];have e:s.wait.take k++s.wait[k]::s.wait.drop (k+1)=s.wait:=by rw[<-JS p,JW]
    have:=XH (a:=s.wait[k]) (l₁:=s.wait.take k) (l₂:=s.wait.drop (k+1));exact this.symm.trans (by rw[e])
   have:=l.map (·.id);rw[QS,f]at this;exact this
  have b:(id::(Bg s.held++Cn (s.wait.eraseIdx k))).Perm (Bg s.held++Cn s.wait):=List.perm_middle.symm.trans (r.append_left _);refine⟨⟨h.len,?_,λx A=>h.wait x (List.mem_of_mem_eraseIdx A),h.held,?_,h.pool⟩,.inl ⟨rfl,b⟩⟩
  ·have:=h.wl;have:=List.length_eraseIdx_le s.wait k;dsimp only;omega
  ·have:=b.nodup_iff.2 h.ids;exact(JC.1 this).2
 |none =>
  dsimp only
  cases v:Dh s.held id with
  |some k =>
   have d:=oT v;obtain⟨x,i,p,f⟩:=d;have d:=PR p;obtain⟨o,z⟩:=d;have r:=eC o p;rw[f]at r;have b:(id::(Bg (s.held.set k none)++Cn s.wait)).Perm (Bg s.held++Cn s.wait):=r.append_right _;refine⟨⟨by simpa using h.len,h.wl,h.wait,λy j C=>?_,(JC.1 (b.nodup_iff.2 h.ids)).2,Yr (eV o) h.pool⟩,.inl ⟨rfl,b⟩⟩;have d:=Wm C;rcases d with t|t
   ·exact h.held y j t
   ·cases t
  |none =>
   refine⟨h,.inr ⟨rfl,rfl,λz=>?_⟩⟩;have d:=Qf.1 z;rcases d with l|l
   ·exact uK.1 v l
   ·exact tM.1 e l
theorem Nj{c:DN}{s:ES}(h:DX g c s){x:Bt}(d:0<=x.id/\x.id<=2147483647):
  ((DU g c s x (CD x.q g.n)).2=0/\(DU g c s x (CD x.q g.n)).1=⟨s.wait++[x],s.held⟩/\DX g c ⟨s.wait++[x],s.held⟩/\x.id∉Bg s.held++Cn s.wait) \/
  ((DU g c s x (CD x.q g.n)).2=180\/(DU g c s x (CD x.q g.n)).2=150\/(DU g c s x (CD x.q g.n)).2=252)/\(DU g c s x (CD x.q g.n)).1=s:=by
 unfold DU;by_cases h0:CD x.q g.n
 case neg=>rw[if_neg h0];exact .inr ⟨.inl rfl,rfl⟩
 rw[if_pos h0]
 cases e:Dh s.held x.id with
 |some k=>exact .inr ⟨.inr (.inl rfl),rfl⟩
 |none =>
  rw[if_neg (by simp)]
  cases p:EK s.wait x.id with
  |some k=>exact .inr ⟨.inr (.inl rfl),rfl⟩
  |none =>
   rw[if_neg (by simp)];by_cases l:c.queue<=s.wait.length
   ·rw[if_pos l];exact .inr ⟨.inr (.inr rfl),rfl⟩
   ·rw[if_neg l]
    have o:x.id∉Bg s.held++Cn s.wait:=λr=>by
     have f:=Qf.1 r;rcases f with b|b
     ·exact uK.1 e b
     ·exact tM.1 p b
    refine .inl ⟨rfl,rfl,⟨h.len,by simp;omega,λy t=>?_,h.held,?_,h.pool⟩,o⟩
    ·have f:=Qf.1 t;rcases f with b|b
     ·exact h.wait y b
     ·rw[Qc]at b;subst b;exact⟨h0,d⟩
    ·show(Bg s.held++(s.wait++[x]).map (·.id)).Nodup;rw[QB,<-Qp];have:(Bg s.held++Cn s.wait++[x.id]).Perm (x.id::(Bg s.held++Cn s.wait)):=VE ..;exact this.nodup_iff.2 (JC.2 ⟨o,h.ids⟩)
def Du (c:DN):ES:=⟨[],List.replicate c.slots none⟩
theorem zNV(n:Nat):Bg (List.replicate n none)=[]:=by simp[Bg]
theorem zN1(g:An)(W n w:Nat):DG g W (List.replicate n none) w=0:=by
 rw[fV]
 have:((List.range (List.replicate n (none:Option (Bt×Nat))).length).map λk=>Lh g W w ((List.replicate n none).getD k none) k)=(List.range (List.replicate n (none:Option (Bt×Nat))).length).map λ_=>0:=by
  apply Ja;intro k _
  have:(List.replicate n (none:Option (Bt×Nat))).getD k none=none:=by
   rw[Qk,Vk];split<;>rfl
  rw[this];rfl
 rw[this];clear this;generalize (List.replicate n (none:Option (Bt×Nat))).length=m
 induction m with
 |zero=>rfl
 |succ m b=>rw[Jm,QB,XV,b];rfl
theorem Wh(g:An)(c:DN):DX g c (Du c):=by
 refine⟨by simp[Du],by simp[Du],by simp[Du],λx i h=>?_,by simp[Du,zNV,Cn],?_⟩
 ·have:=(VW.1 h).2;cases this
 ·rw[<-Vy,ZD];rintro⟨w,_,h⟩;have:DG g c.workers (Du c).held w=0:=zN1 g c.workers c.slots w;omega
section
variable {g:An} {W:Nat} {h:Hs}
theorem cX{slot:Int}{x:AN}(h:x∈sts g q slot i):x.key.slot=slot:=by
 have b:=TV.1 h;obtain⟨j,_,h⟩:=b;exact(Pz.1 h).1
theorem UG{o:Option (Bt×Nat)}{x:AN}(h:x∈Hj g o k):x.key.slot=(k:Int):=by
 cases o with
 |none=>cases h
 |some p=>obtain⟨r,i⟩:=p;exact cX h
theorem bW(g:An)(o:Option (Bt×Nat))(k:Nat):CE (Hj g o k):=by cases o<;>simp[Hj,hU]
theorem jH{x:AN}:x∈GD g h↔∃k,k<h.length/\x∈Hj g (h.getD k none) k:=by simp[GD,Hj]
theorem zOB(g:An)(h:Hs):CE (GD g h):=by
 unfold GD;rw[CE,XQ];refine⟨λk _=>bW g _ k,?_⟩;exact List.pairwise_lt_range.imp λAY x b y c=>.inl (by rw[UG b,UG c];omega)
theorem ZG{x:AN}(c:k<h.length)(e:x.key.slot=(k:Int)):x∈GD g h↔x∈Hj g (h.getD k none) k:=by
 rw[jH];constructor
 ·rintro⟨j,_,b⟩;have:=UG b;have d:j=k:=by omega
  obtain rfl:=d;exact b
 ·exact λb=>⟨k,c,b⟩
theorem ZL{x:AN}{o:Option (Bt×Nat)}(d:k<h.length)(e:x.key.slot≠(k:Int)):x∈GD g (h.set k o)↔x∈GD g h:=by
 rw[jH,jH];simp only[Jc];constructor
 ·rintro⟨j,c,b⟩;have:=UG b;rw[RF d,if_neg (by omega)]at b;exact⟨j,c,b⟩
 ·rintro⟨j,c,b⟩;have:=UG b;refine⟨j,c,?_⟩;rw[RF d,if_neg (by omega)];exact b
def FA (g:An) (W:Nat) (h:Hs) (k:Nat):List AN:=(GD g h).filter λx=>decide (Dt W x.key.v=k)
theorem N7{x:AN}:x∈FA g W h k↔x∈GD g h/\Dt W x.key.v=k:=by simp[FA]
theorem TE(g:An)(W:Nat)(h:Hs)(k:Nat):CE (FA g W h k):=(zOB g h).filter _
theorem sY(g:An)(W:Nat)(h:Hs)(k:Nat):(FA g W h k).length=DG g W h k:=rfl
def Lo (g:An) (W:Nat) (h:Hs) (k0:Nat) (Ls:Nat->List AN):Prop:=∀k,CE (Ls k)/\∀x,x.key.slot≠(k0:Int)->(x∈Ls k↔x∈FA g W h k)
theorem zOD(k0:Nat):Lo g W h k0 (FA g W h):=λk=>⟨TE g W h k,λ_ _=>Iff.rfl⟩
theorem Lo.drop{k0:Nat}{Ls:Nat->List AN}(H:Lo g W h k0 Ls)(b:k0<h.length)(k:Nat):I9 (Ls k) (k0:Int)=FA g W (h.set k0 none) k:=by
 refine CE.uniq ((H k).1.filter _) (TE ..) λx=>?_;unfold I9;rw[QC,decide_eq_true_eq,N7];constructor
 ·rintro⟨c,d⟩;have o:=N7.1 (((H k).2 x d).1 c);obtain⟨f,p⟩:=o;exact⟨(ZL b d).2 f,p⟩
 ·rintro⟨c,d⟩
  have l:x.key.slot≠(k0:Int):=λe=>by
   have f:=(ZG (h:=h.set k0 none) (by simpa using b) e).1 c;rw[RF b,if_pos rfl]at f;cases f
  exact⟨((H k).2 x l).2 (N7.2 ⟨(ZL b l).1 c,d⟩),l⟩
theorem WK{k0:Nat}(e:k0<h.length)(k:Nat):N1 (FA g W h k) (k0:Int)=(Hj g (h.getD k0 none) k0).filter λx=>decide (Dt W x.key.v=k):=by
 refine CE.uniq ((TE ..).filter _) ((bW ..).filter _) λx=>?_;unfold N1;simp only[QC,decide_eq_true_eq,N7];constructor
 ·rintro⟨⟨b,d⟩,c⟩;exact⟨(ZG e c).1 b,d⟩
 ·rintro⟨b,d⟩;have c:=UG b;exact⟨⟨(ZG e c).2 b,d⟩,c⟩
theorem WA{o:Option (Bt×Nat)}{x:AN}(h:x∈Hj g o k):0<=x.key.v:=by
 cases o with
 |none=>cases h
 |some p =>
  obtain⟨r,i⟩:=p;have b:=TV.1 h;obtain⟨j,_,h⟩:=b;have b:=Pz.1 h;obtain⟨_,_,_,v,c,_⟩:=b;omega
theorem lF{v:Int}(b:1<=W):0<=Dt W v/\Dt W v<W:=by
 unfold Dt;exact⟨Vs _ (by omega),VT _ (by omega)⟩
theorem WT{k0:Nat}(c:k0<h.length)(d:1<=W):((List.range W).flatMap λk=>N1 (FA g W h k) (k0:Int)).Perm (Hj g (h.getD k0 none) k0):=by
 refine(JM ?_ (bW ..).nodup).2 λx=>?_
 ·rw[Qx,XQ];refine⟨λk _=>?_,List.pairwise_lt_range.imp λAY x f y l e=>?_⟩
  ·rw[<-Qx];exact((TE ..).nodup).filter _
  ·subst e;have b:=(N7.1 (QC.1 f).1).2;have o:=(N7.1 (QC.1 l).1).2;omega
 ·rw[VP];simp only[WK c,QC,decide_eq_true_eq,Q0];constructor
  ·rintro⟨k,_,b,_⟩;exact b
  ·intro b;have o:=lF (W:=W) (v:=x.key.v) d;exact⟨(Dt W x.key.v).toNat,by omega,b,by omega⟩
def Gi (g:An) (W:Nat) (h:Hs) (l:List AN) (j:Nat) (Ls:Nat->List AN):Prop:=∀k,CE (Ls k)/\∀x,x∈Ls k↔x∈FA g W h k\/(x∈l.take j/\Dt W x.key.v=k)
theorem zK(l:List AN):Gi g W h l 0 (FA g W h):=λk=>⟨TE ..,λx=>by simp⟩
variable {x0:Bt} {i k0 j:Nat} {Ls:Nat->List AN}
abbrev DV (h:Hs) (k0:Nat) (x0:Bt) (i:Nat):Hs:=h.set k0 (some (x0,i+1))
theorem Lq(b:k0<h.length){x:AN}(c:x.key.slot=(k0:Int)):x∈GD g (DV h k0 x0 i)↔x∈sts g x0.q k0 (i+1):=by
 rw[ZG (by simpa using b) c,RF b,if_pos rfl];rfl
theorem zV(e:h.getD k0 none=some (x0,i)){x:AN}(b:x∈GD g h):x∈GD g (DV h k0 x0 i):=by
 have c:=PR e;obtain⟨d,_⟩:=c;by_cases f:x.key.slot=(k0:Int)
 ·rw[Lq d f];rw[ZG d f,e]at b;have c:=TV.1 b;obtain⟨j,o,l⟩:=c;exact TV.2 ⟨j,by omega,l⟩
 ·exact(ZL d f).2 b
theorem Gi.sub(e:h.getD k0 none=some (x0,i))(H:Gi g W h (sts g x0.q k0 (i+1)) j Ls){x:AN}(f:x∈Ls k):x∈FA g W (DV h k0 x0 i) k:=by
 have b:=PR e;obtain⟨l,_⟩:=b;have b:=((H k).2 x).1 f;rcases b with d|⟨d,o⟩
 ·have b:=N7.1 d;obtain⟨c,p⟩:=b;exact N7.2 ⟨zV e c,p⟩
 ·have c:=Vu d;exact N7.2 ⟨(Lq l (cX c)).2 c,o⟩
theorem Gi.but(H:Gi g W h (sts g x0.q k0 (i+1)) j Ls):Lo g W h k0 Ls:=λk=>⟨(H k).1,λx b=>by
 rw[(H k).2];exact⟨λc=>c.elim id λd=>absurd (cX (Vu d.1)) b,.inl⟩⟩
def I8 (Ls:Nat->List AN) (k:Nat) (L:List AN):Nat->List AN:=λj=>if j=k then L else Ls j
theorem Gi.put(e:h.getD k0 none=some (x0,i))(H:Gi g W h (sts g x0.q k0 (i+1)) j Ls)(I:j<(sts g x0.q k0 (i+1)).length){x:AN}(J:(sts g x0.q k0 (i+1))[j]=x)(E:Dz x)(K:Dt W x.key.v=k):
  ((EP n (Ls k) x).2=140/\(EP n (Ls k) x).1=Ls k/\n<DG g W (DV h k0 x0 i) k)\/((EP n (Ls k) x).2≠140/\Gi g W h (sts g x0.q k0 (i+1)) (j+1) (I8 Ls k (EP n (Ls k) x).1)):=by
 have o:=PR e;obtain⟨S,_⟩:=o;have p:x∈sts g x0.q k0 (i+1):=J ▸ Qa I;have r:x∈FA g W (DV h k0 x0 i) k:=N7.2 ⟨(Lq S (cX p)).2 p,K⟩;have d:(sts g x0.q k0 (i+1)).take (j+1)=(sts g x0.q k0 (i+1)).take j++[x]:=by rw[QO I,J]
 unfold EP;rw[if_pos E]
 cases L:KG (Ls k) x.key with
 |some y =>
  right;have o:=pJ (H k).1 |>.1 L;obtain⟨M,F⟩:=o;have G:y=x:=(TE ..).inj (H.sub e M) r F;subst G;refine⟨by dsimp only;decide,λc=>?_⟩;dsimp only;have t:I8 Ls k (Ls k) c=Ls c:=by unfold I8;split<;>simp_all
  rw[t];refine⟨(H c).1,λz=>?_⟩;rw[(H c).2,d];constructor
  ·rintro(b|⟨b,f⟩)
   ·exact .inl b
   ·exact .inr ⟨QN _ b,f⟩
  ·rintro(b|⟨b,f⟩)
   ·exact .inl b
   ·have o:=Qf.1 b;rcases o with l|l
    ·exact .inr ⟨l,f⟩
    ·rw[Qc]at l;subst l;have:c=k:=by omega
     subst this;exact((H _).2 _).1 M
 |none =>
  have O:=mR.1 L;dsimp only;by_cases Q:n<=(Ls k).length
  ·left;rw[if_pos Q];refine⟨rfl,rfl,?_⟩
   have U:Ls k=(FA g W (DV h k0 x0 i) k).filter λy=>decide (y∈Ls k):=by
    refine CE.uniq (H k).1 ((TE ..).filter _) λz=>?_;rw[QC,decide_eq_true_eq];exact⟨λC=>⟨H.sub e C,C⟩,λC=>C.2⟩
   have l:((FA g W (DV h k0 x0 i) k).filter λy=>decide (y∈Ls k)).length<(FA g W (DV h k0 x0 i) k).length:=by
    rw[List.length_filter_lt_length_iff_exists];exact⟨x,r,by simpa using λE=>O x E rfl⟩
   rw[<-U,sY]at l;omega
  ·right;rw[if_neg Q];refine⟨by dsimp only;decide,λc=>?_⟩;by_cases A:c=k
   ·subst A;have t:I8 Ls c (HP x (Ls c)) c=HP x (Ls c):=if_pos rfl;rw[t];refine⟨dU x (H c).1 O,λz=>?_⟩;rw[(Wq x _).mem_iff,Ql,(H c).2,d,Qf,Qc];constructor
    ·rintro(rfl|b|⟨b,f⟩)
     ·exact .inr ⟨.inr rfl,K⟩
     ·exact .inl b
     ·exact .inr ⟨.inl b,f⟩
    ·rintro(b|⟨b|b,f⟩)
     ·exact .inr (.inl b)
     ·exact .inr (.inr ⟨b,f⟩)
     ·exact .inl b
   ·have t:I8 Ls k (HP x (Ls k)) c=Ls c:=if_neg A;rw[t];refine⟨(H c).1,λz=>?_⟩;rw[(H c).2,d,Qf,Qc];constructor
    ·rintro(b|⟨b,f⟩)
     ·exact .inl b
     ·exact .inr ⟨.inl b,f⟩
    ·rintro(b|⟨b|b,f⟩)
     ·exact .inl b
     ·exact .inr ⟨b,f⟩
     ·subst b;omega
theorem Gi.end(e:h.getD k0 none=some (x0,i))(H:Gi g W h (sts g x0.q k0 (i+1)) (sts g x0.q k0 (i+1)).length Ls):Ls=FA g W (DV h k0 x0 i):=by
 have b:=PR e;obtain⟨d,_⟩:=b;funext k;refine CE.uniq (H k).1 (TE ..) λx=>⟨λc=>H.sub e c,λc=>?_⟩;rw[(H k).2,Qg];have b:=N7.1 c;obtain⟨f,l⟩:=b;by_cases o:x.key.slot=(k0:Int)
 ·exact .inr ⟨(Lq d o).1 f,l⟩
 ·exact .inl (N7.2 ⟨(ZL d o).1 f,l⟩)
end
theorem zQb{c:DN}{s:ES}(h:DX g c s){x:Bt}(e:s.held.getD k none=some (x,i)):DX g c ⟨s.wait,s.held.set k none⟩:=by
 have b:=PR e;obtain⟨f,o⟩:=b;refine⟨by simpa using h.len,h.wl,h.wait,λy j l=>?_,?_,Yr (eV f) h.pool⟩
 ·have b:=Wm l;rcases b with d|d
  ·exact h.held y j d
  ·cases d
 ·have:=((eC f e).append_right (Cn s.wait)).nodup_iff.2 h.ids;rw[VO,JC]at this;exact this.2
theorem wD{α b:Type}{f:α->Option Int}{f':b->Option Int}{p:α->Bool}{c:b->Bool}{l:List α}{m:List b}{id:Int}(e:∀x,p x=decide (f x=some id))(d:∀x,c x=decide (f' x=some id))(h:l.map f=m.map f'):l.findIdx? p=m.findIdx? c:=by
 have r:l.findIdx? p=(l.map f).findIdx? λo=>decide (o=some id):=by rw[VH];congr 1;funext x;exact e x
 have t:m.findIdx? c=(m.map f').findIdx? λo=>decide (o=some id):=by rw[VH];congr 1;funext x;exact d x
 rw[r,t,h]
theorem eH{α b c:Type}{f:α->c}{f':b->c}{l:List α}{m:List b}(d:l.length=m.length)(h:∀i (h:i<l.length) (p:i<m.length),f l[i]=f' m[i]):l.map f=m.map f':=by
 apply Xg (by simpa using d);intro i e o;simp only[List.getElem_map];exact h i (by simpa using e) (by simpa using o)
def OY (h:Hs) (k:Nat):Int:=match h.getD k none with|some (x,_)=>x.id|none=>0
theorem zPP{h:Hs}:(Av h).map (OY h)=Bg h:=by
 unfold Av Dj Bg
 have c:∀m,m<=h.length->((List.range m).filter λk=>(h.getD k none).isSome).map (OY h)=(h.take m).filterMap λo=>o.map (·.1.id):=by
  intro m
  induction m with
  |zero=>intro _;simp
  |succ m d =>
   intro f;have b:h.getD m none=h[m]'(by omega):=by rw[Qk,Qd (by omega),QP]
   rw[Jm,QV,QB,d (by omega),QO (by omega),XP];congr 1;rw[Vj,List.filter_nil]
   cases e:h[m]'(by omega) with
   |none=>rw[e]at b;rw[b];rfl
   |some p=>obtain⟨x,i⟩:=p;rw[e]at b;simp only[OY,b,Option.isSome_some,if_true,QS,JP,List.filterMap_cons,List.filterMap_nil,JD]
 have:=c h.length (Qe _);rw[Qg]at this;exact this
theorem zOC{h:Hs}(c:k<h.length)(e:h.getD k none=none)(x:Bt):GD g (h.set k (some (x,0)))=GD g h:=by
 unfold GD;rw[Jc];congr 1;funext j;rw[RF c];by_cases b:j=k
 ·subst b;rw[if_pos rfl,e];rfl
 ·rw[if_neg b]
theorem zQ1{W:Nat}{h:Hs}(b:k<h.length)(e:h.getD k none=none)(x:Bt):FA g W (h.set k (some (x,0)))=FA g W h:=by
 funext j;unfold FA;rw[zOC b e]
theorem zNF{c:DN}(o:Km c){x:Bt}{r:List Bt}{h:Hs}(s:DX g c ⟨x::r,h⟩)(e:Hi h=some k):DX g c ⟨r,h.set k (some (x,0))⟩:=by
 have b:=iP e;obtain⟨l,p⟩:=b
 have t:(Bg (h.set k (some (x,0)))++Cn r).Perm (Bg h++Cn (x::r)):=by
  refine((mJ l p x 0).symm.append_right _).trans ?_;show(x.id::Bg h++Cn r).Perm (Bg h++(x.id::Cn r));exact List.perm_middle.symm
 refine⟨by simpa using s.len,by have:=s.wl;simp at this ⊢;omega,λy d=>s.wait y (QF _ d),λy i d=>?_,t.nodup_iff.2 s.ids,?_⟩
 ·have b:=Wm d;rcases b with f|f
  ·exact s.held y i f
  ·cases f;exact⟨s.wait x Qs,by have:=o.budget.1;omega⟩
 ·refine Yr (λw=>?_) s.pool;have:=jV (g:=g) (W:=c.workers) (w:=w) l (some (x,0));rw[tB]at this;dsimp only;omega
theorem zNb{k:Int}{l:List AG}:(CN k l).length<=k.toNat/\∀h∈CN k l,h∈l:=by
 unfold CN;split
 ·simp
 ·rename_i d;have b:=QU (show(0:Int)<=k by omega);obtain⟨m,rfl⟩:=b;rw[zLN];refine⟨by simp;omega,λh c=>?_⟩;exact(zNx l).2.mem_iff.1 (Vu c)
theorem zOP(t:NU g)(r:LZ q g.n)(K:k<=1000){id:Int}(b:0<=id/\id<=2147483647):
  BG (BN id 0 (Az g q (sts g q k i) (Cf g q k i)).1) (Az g q (sts g q k i) (Cf g q k i)).1.hits:=by
 have z:=t.n2
 have o:∀x∈sts g q k i,0<=x.key.v/\x.key.v<200/\0<=x.d/\x.d<200:=λx e=>by
  have c:=eK r z (by omega) e;have A:=c.1.1;unfold GW at A;omega
 have f:BG (BN id 0 ER) ER.hits:=⟨b,by simp[BN],by simp[BN,ER],by simp[ER],by simp[BN],by simp[BN,ER],by simp[ER],by simp[ER]⟩;unfold Az;split
 ·unfold MT;split
  ·rename_i m C;have c:=(vR.1 C).1;have p:=dH.1 c;obtain⟨x,e,y,E,_,_,_,rfl⟩:=p;have:=o x e;have:=o y E;exact⟨b,by simp[BN],by simp only[BN];omega,by simp,by simp[BN],by simp[BN],by simp,by simp⟩
  ·exact f
 split
 ·unfold HU;split
  ·exact⟨b,by simp[BN],by simp[BN],by simp,by simp[BN],by simp[BN],by simp,by simp⟩
  ·exact f
 split
 ·rename_i F;have G:=r.near F;unfold KF;split
  ·have H:=zNb (k:=q.most) (l:=CR (Af g q.words) (sts g q k i));refine⟨b,by simp[BN],by simp[BN],by dsimp only;omega,by simp[BN],λI=>?_,.inr rfl,λh J=>?_⟩
   ·refine⟨rfl,?_⟩;simpa[BN]using I
   ·have c:=H.2 h J;unfold CR at c;have p:=Qq.1 c;obtain⟨x,e,rfl⟩:=p;have:=o x (QC.1 e).1;exact⟨by show 0<=x.key.v;omega,by show x.key.v<200;omega,by show 0<=x.d;omega,by show x.d<=200;omega⟩
  ·exact f
 ·exact f
theorem r7{id b:Int}(c:0<=id/\id<=2147483647)(d:0<=b/\b<=1000):BG (BN id b ER) ER.hits:=by simp_all[BG,BN,ER]
section
variable {g:An} {q:FX}
end
section
variable {g:An} {c:DN}
theorem zNy{h:Hs}(f:j≠k):(Ah g c h k).1.getD j none=h.getD j none:=by
 have d:=nK (g:=g) (c:=c) (h:=h) (k:=k);rcases d with⟨_,e⟩|⟨p,r,l,e⟩
 ·rw[e]
 ·have d:=PR l;obtain⟨o,_⟩:=d;rcases e with⟨_,b⟩|⟨_,_,b⟩|⟨_,_,_,b⟩|⟨_,_,_,b⟩<;>rw[b]<;>dsimp only<;>rw[RF o,if_neg f]
theorem zOy{h:Hs}(b:k∈Av h):∃x i,h.getD k none=some (x,i):=by
 unfold Av at b;have f:=cU.1 b;obtain⟨_,d⟩:=f
 cases e:h.getD k none with
 |none=>rw[e]at d;cases d
 |some p=>exact⟨p.1,p.2,rfl⟩
theorem zQZ(h:Hs):(Av h).Nodup:=List.nodup_range.filter _
end
noncomputable def Cj (g:An) (c:DN) (h:Hs) (k:Nat):Option (Int×Int×Gk):=match h.getD k none with
 |none=>none
 |some (x,i) =>
  if CX g c (h.set k (some (x,i+1))) then some (x.id,250,ER)
  else if(Az g x.q (sts g x.q k (i+1)) (Cf g x.q k (i+1))).2 then some (x.id,0,(Az g x.q (sts g x.q k (i+1)) (Cf g x.q k (i+1))).1)
  else if c.budget<=i+1 then some (x.id,251,ER) else none
noncomputable def GO (g:An) (c:DN):List Nat->Hs->List (Int×Int×Gk)
 |[],_=>[]
 |k::r,h=>(Cj g c h k).toList++GO g c r (Ah g c h k).1
noncomputable def Ga (p:Int×Int×Gk):U8:=Gp p.1 p.2.1 p.2.2
section
variable {g:An} {c:DN}
theorem fZ(h:Hs)(k:Nat):(Ah g c h k).2=(Cj g c h k).map Ga/\Ff g c h k=((Cj g c h k).map (·.1)).toList:=by
 unfold Ff Ah Cj
 cases e:h.getD k none with
 |none=>exact⟨rfl,rfl⟩
 |some p =>
  obtain⟨x,i⟩:=p;dsimp only;split
  ·exact⟨rfl,rfl⟩
  ·split
   ·exact⟨rfl,rfl⟩
   ·split
    ·exact⟨rfl,rfl⟩
    ·exact⟨rfl,rfl⟩
theorem qD:∀(b:List Nat) (h:Hs),(BF g c b h).2=(GO g c b h).map Ga/\LL g c b h=(GO g c b h).map (·.1)
 |[],h=>⟨rfl,rfl⟩
 |k::r,h=>by
  have d:=qD r (Ah g c h k).1;obtain⟨e,f⟩:=d;have d:=fZ (g:=g) (c:=c) h k;obtain⟨l,o⟩:=d;constructor
  ·show(Ah g c h k).2.toList++(BF g c r (Ah g c h k).1).2=((Cj g c h k).toList++GO g c r (Ah g c h k).1).map Ga;rw[e,l,QB];cases Cj g c h k<;>rfl
  ·show Ff g c h k++LL g c r (Ah g c h k).1=((Cj g c h k).toList++GO g c r (Ah g c h k).1).map (·.1);rw[f,o,QB];cases Cj g c h k<;>rfl
def Ir (g:An) (c:DN) (h:Hs) (p:Int×Int×Gk):Prop:=
 ∃x k i,k<h.length/\h.getD k none=some (x,i)/\Uc g x/\x.id=p.1/\i+1<=c.budget/\k<=1000 /\
  (p.2=(250,ER)\/p.2=(251,ER) \/
   (Az g x.q (sts g x.q k (i+1)) (Cf g x.q k (i+1))).2=true/\p.2=(0,(Az g x.q (sts g x.q k (i+1)) (Cf g x.q k (i+1))).1))
theorem pF{l:List Bt}{h:Hs}(f:Km c)(s:DX g c ⟨l,h⟩){p:Int×Int×Gk}(b:Cj g c h k=some p):Ir g c h p:=by
 unfold Cj at b
 cases e:h.getD k none with
 |none=>rw[e]at b;cases b
 |some q =>
  obtain⟨x,i⟩:=q;rw[e]at b;have o:=PR e;obtain⟨d,r⟩:=o;have t:=s.held x i r;have v:=s.len;have y:=f.slots.2;dsimp only at b v d;refine⟨x,k,i,d,e,t.1,?_⟩;split at b
  ·cases b;exact⟨rfl,by omega,by omega,.inl rfl⟩
  ·split at b
   ·rename_i z;cases b;exact⟨rfl,by omega,by omega,.inr (.inr ⟨z,rfl⟩)⟩
   ·split at b
    ·cases b;exact⟨rfl,by omega,by omega,.inr (.inl rfl)⟩
    ·cases b
theorem Ir.ok(o:NU g){h:Hs}{p:Int×Int×Gk}(t:Ir g c h p):BG (BN p.1 p.2.1 p.2.2) p.2.2.hits/\(p.2.1=0\/p.2.1=250\/p.2.1=251):=by
 obtain⟨id,l,a⟩:=p;obtain⟨x,k,i,r,e,d,rfl,_,f,b⟩:=t;rcases b with b|b|⟨_,b⟩
 ·cases b;exact⟨r7 d.id (by dsimp only;decide),by simp⟩
 ·cases b;exact⟨r7 d.id (by dsimp only;decide),by simp⟩
 ·cases b;exact⟨zOP o d.q.ok f d.id,by simp⟩
theorem pU(f:Km c){l:List Bt}(P:Int×Int×Gk->Prop)(o:∀h p,DX g c ⟨l,h⟩->Ir g c h p->P p):∀(t:List Nat) (h:Hs),DX g c ⟨l,h⟩->∀p∈GO g c t h,P p
 |[],_,_,p,d=>(by cases d)
 |k::r,h,s,p,d=>by
  have v:=Qf.1 (show p∈(Cj g c h k).toList++GO g c r (Ah g c h k).1 from d);rcases v with b|b
  ·cases e:Cj g c h k with
   |none=>rw[e]at b;cases b
   |some q =>
    rw[e]at b;have:p=q:=by simpa using b
    subst this;exact o h p s (pF f s e)
  ·exact pU f P o r _ (jU k s).1 p b
noncomputable def Ck (g:An) (c:DN) (s:ES):List (Int×Int×Gk):=GO g c (Av (BS s.wait s.held).2) (BS s.wait s.held).2
theorem rN(s:ES):(Eq g c s).2=(Ck g c s).map Ga:=(qD _ _).1
theorem zL9(d:NU g)(b:Km c){s:ES}(h:DX g c s){p:Int×Int×Gk}(e:p∈Ck g c s):BG (BN p.1 p.2.1 p.2.2) p.2.2.hits/\(p.2.1=0\/p.2.1=250\/p.2.1=251):=
 pU b _ (λ_ _ _ t=>t.ok d) _ _ (kK b s.wait s.held h).1 p e
end
section
variable {g:An} {c:DN} {h:Hs} {k:Nat} {x:Bt} {i:Nat}
theorem qT(e:h.getD k none=some (x,i))(b:CX g c (h.set k (some (x,i+1)))=true):Cj g c h k=some (x.id,250,ER)/\(Ah g c h k).1=h.set k none:=by simp_all[CX,ER,Cj,Ah]
theorem Xe(e:h.getD k none=some (x,i))(d:CX g c (h.set k (some (x,i+1)))=false)(hd:(Az g x.q (sts g x.q k (i+1)) (Cf g x.q k (i+1))).2=true):
  Cj g c h k=some (x.id,0,(Az g x.q (sts g x.q k (i+1)) (Cf g x.q k (i+1))).1)/\(Ah g c h k).1=h.set k none:=by
 have b:¬CX g c (h.set k (some (x,i+1)))=true:=by rw[d];simp
 unfold Cj Ah;rw[e];dsimp only;rw[if_neg b,if_neg b,if_pos hd,if_pos hd];exact⟨rfl,rfl⟩
theorem cZ(e:h.getD k none=some (x,i))(f:CX g c (h.set k (some (x,i+1)))=false)(hd:(Az g x.q (sts g x.q k (i+1)) (Cf g x.q k (i+1))).2=false)(hb:c.budget<=i+1):
  Cj g c h k=some (x.id,251,ER)/\(Ah g c h k).1=h.set k none:=by
 have d:¬CX g c (h.set k (some (x,i+1)))=true:=by rw[f];simp
 have b:¬(Az g x.q (sts g x.q k (i+1)) (Cf g x.q k (i+1))).2=true:=by rw[hd];simp
 unfold Cj Ah;rw[e];dsimp only;rw[if_neg d,if_neg d,if_neg b,if_neg b,if_pos hb,if_pos hb];exact⟨rfl,rfl⟩
theorem Wp(e:h.getD k none=some (x,i))(f:CX g c (h.set k (some (x,i+1)))=false)(hd:(Az g x.q (sts g x.q k (i+1)) (Cf g x.q k (i+1))).2=false)(hb:¬c.budget<=i+1):
  Cj g c h k=none/\(Ah g c h k).1=h.set k (some (x,i+1)):=by
 have d:¬CX g c (h.set k (some (x,i+1)))=true:=by rw[f];simp
 have b:¬(Az g x.q (sts g x.q k (i+1)) (Cf g x.q k (i+1))).2=true:=by rw[hd];simp
 unfold Cj Ah;rw[e];dsimp only;rw[if_neg d,if_neg d,if_neg b,if_neg b,if_neg hb,if_neg hb];exact⟨rfl,rfl⟩
end
section
variable {g:An} {c:DN}
end
end Go.W
set_option linter.unusedSimpArgs false
namespace Go.W
open Go
open AK (enc)
variable {B N hi i j k m n:Nat} {D R:Nat -> Prop} {P:Program} {T:Ce} {a:OA} {g:An} {q:FX} {s:U8} {u w w':World}
section
variable {P:Program}
structure El (P:Program) (f:FuncId) (args:Array Value) (w:World) (R:KW) (Rp:PW):Prop where
 can:CH P f
 calls:Calls P f args w (H3 R Rp)
theorem El.mono{f:FuncId}{args:Array Value}{R R':KW}{l b:PW}(h:El P f args w R l)(o:∀v w',R v w'->R' v w')(p:∀c w',l c w'->b c w'):El P f args w R' b:=
 ⟨h.can,h.calls.mono λe w' d=>by cases e<;>first|exact o _ _ d|exact p _ _ d|exact d⟩
theorem AO{f:FuncId}{args:Array Value}{k:KW}{d:PW}{R:KW}{l:PW}
  (h:El P f args w R l)(o:∀v w',R v w'->k v w')(p:∀c w',l c w'->d c w'):Gz P f args k d w:=by
 rw[Us];exact⟨h.can,h.calls.mono λe w' b=>by cases e<;>first|exact o _ _ b|exact p _ _ b|exact b.elim⟩
theorem HB(c:T.ok P=true){f:FuncId}{fn:Func}[h:AB P f fn n]{args:Array Value}{R:KW}{b:PW}(d:Nat.ble args.size n=true)
  (e:S P T n (FC fn) (MI P fn.results.toList R b) (KN args.toList) w)(l:Nat.ble n 4294967296=true:=by rfl)(o:T.round=false:=by rfl):El P f args w R b:=
 ⟨⟨fn,h.hf,h.hb,h.hm⟩,pC c o h.hf h.hn h.hb d l e⟩
theorem FG{t:TypeId}{v:Value}{k:KW}{b:PW}(h:b [{ v:=.iface t v,recovered:=false }] w):AI P (Instr.panic (.iface t v)) k b w:=by
 rw[YU];exact h
theorem Mq{f:List ResultVar}{F:Nat->Value}{c:List PanicEntry}{R:KW}{b:PW}{d:Nat->Bool}(h0:d 4294967296=false)(hd:FH (F 4294967296)=[])(h:b c w):
  ∀e,agree d F e->(MI P f R b).pan e c w:=by simp_all[h0,FH,agree,MI,Ho]
theorem gE{b:Array TypeId}{ty:TypeId}{x y:Int}{k:Value->Prop}(c:k (.int .i64 (min x y))):Ar P (Builtin.min_ b ty #[.int .i64 x,.int .i64 y]) D k w:=by
 rw[Iv];exact⟨.int .i64 (min x y),λw' _=>by simp[Builtin.min_,Builtin.min2];split<;>omega,c⟩
theorem VU{s d:TypeId}{kd b c:IntKind}[e:Gj P s b][hd:Gj P d kd]{n z:Int}{k:Value->Prop}(f:kd.wrap n=z)(h:k (.int kd z)):Ar P (convert s d (.int c n)) D k w:=by
 rw[Iv];exact⟨.int kd z,λw' _=>by rw[oO e hd n w',f],h⟩
theorem Sx{t u:TypeId}{z:Value}{sz b:Nat}[c:Ik P t][e:AX P t z sz b]{k:KW}{f:PW}(l:k (.tuple #[z,.bool false]) w):AI P (Instr.typeAssert .nilIface u t true) k f w:=by
 obtain⟨i,hi,o,_,_⟩:=info_parts e.h;have h:=c.h;unfold Nn at h;refine AI.of (w':=w) ?_ l;unfold Instr.typeAssert;simp only[Qo,underlying,run_program,Qh]
 cases hd:P.underlying t with
 |none=>rw[hd]at h;cases h
 |some d =>
  rw[hd]at h;cases d<;>first|(simp[zeroValue,typeInfo,hi,o];done)|cases h
def EV:FrameMode->Value×FrameMode
 |.panicking ({ v,recovered:=false,goexit:=false }::older)=>(v,.panicking ({ v,recovered:=true }::older))
 |u=>(.nilIface,u)
structure Lm (P:Program) (g:FuncId) (args:Array Value) (u:FrameMode) (w:World) (R:FrameMode->World->Prop):Prop where
 can:CH P g
 calls:CallsDIn Fence.wide 0 P g args u w λe u' w'=>match e with | .returned _=>R u' w'|_=>False
theorem Sc{F:Fence}{f:FuncId}{args:Array Value}{u:FrameMode}{R R':Ending->FrameMode->World->Prop}(h:CallsDIn F n P f args u w R)(d:∀e u' w',R e u' w'->R' e u' w'):CallsDIn F n P f args u w R':=
 ⟨h.1,λc cs l b=>let ⟨e,u',w',fr,r,rest⟩:=h.2 c cs l b;⟨e,u',w',fr,d _ _ _ r,rest⟩⟩
theorem T5{d:List ResultVar}{F:Nat->Value}{g:FuncId}{first cap:Array Value}{ds:List Deferred}{u:FrameMode}{R:KW}{f:PW}(l:u≠.run)
  (h:Lm P g (first++cap) u w λu' w'=>Cb P d F ds (settle u') R f w'):Cb P d F ({ target:=.fn (.func g) cap,args:=first }::ds) u R f w:=by
 refine⟨λfn tmps o p=>⟨l,.inr ⟨(λhd=>by cases hd),.func g,cap,g,first++cap,rfl,UI h.can w,λ_ _=>trivial,Sc h.calls ?_⟩⟩⟩;intro e u' w' b
 cases e with
 |returned v=>exact b.out fn tmps o p
 |panicked c=>exact b.elim
 |outgrown=>exact b.elim
def Pa (R:World->Prop):KS where
 nrm:=λF w=>FH (F 4294967296)=[]/\R w
 ext:=λ_ _ _=>False
 ret:=λF w=>FH (F 4294967296)=[]/\R w
 pan:=λ_ _ _=>False
theorem zOz(hT:T.ok P=true)(a0:T.round=false){ops:Array Oper}{rest:Code}{o:Oper}{os:List Oper}{d:Nat}{K:KS}{F:Nat->Value}{a:Act}{l:Frame}{cs:List Frame}{u:FrameMode}
  (ho:ops.toList=o::os)(hg:o.guard=none)(hd:o.dst=some d)(hdn:d<n)(hx:∀(ρ:Operand->Value) (w:World),(execOp ρ o).run P w=.ok .recover w)(hu:l.mode=u)(ha:FI n F a)
  (h:Dv P T n ops.toList os (CQ F d (EV u).1) (λz w'=>S P T n rest K z w') (λz c w'=>K.pan z c w') w):
  (Code.seq (.region i ops false) rest).wpSIn Fence.wide 0 P (λe a' M w'=>K.lift n F (λ_=>true) e a' w'/\M = { l with mode:=(EV u).2 }::cs) a (l::cs) w:=by
 intro b k hb E hF x;have i0:(lone (b.atR a (.code (.seq (.region i ops false) rest)::k)) (l::cs) w).fenced P Fence.wide:=fenced_calm hF x rfl;have i1:(lone (b.atR a (.code (.region i ops false)::.code rest::k)) (l::cs) w).fenced P Fence.wide:=fenced_calm hF x rfl;have A:ops[0]? = some o:=by rw[<-Jj,ho];rfl
 have a6:ops.size=os.length+1:=by rw[<-Vc,ho];rfl
 have H:List.range ops.size=0::List.range' 1 os.length:=by rw[a6,List.range_eq_range',List.range'_succ]
 have hw:Region.wanted o (yielded ops a.tmps)=true:=by simp[Region.wanted,hg]
 have I:∀f,o.about P w a.eval=some f->Fence.wide.fn f:=λ_ _=>trivial;have i2:(lone (b.atR a (.inRegion ops (0::List.range' 1 os.length)::.code rest::k)) (l::cs) w).fenced P Fence.wide:=fenced_oper hF x A I;have a1:=stepGR_op (P:=P) (b:=b) (k:=.code rest::k) (cs:=l::cs) (w:=w) (rest:=List.range' 1 os.length) A hw;rw[E,Oper.semAt_none]at a1
 have a3:∀v,(b.atR a (.inRegion ops (0::List.range' 1 os.length)::.code rest::k)).finish v=b.atR (a.put o.dst v) (.inRegion ops (List.range' 1 os.length)::.code rest::k):=by
  intro v;rw[Frame.finish_atR,A];rfl
 have hk:(b.atR a (.inRegion ops (0::List.range' 1 os.length)::.code rest::k)).kind=.deferred:=hb;have O:=tryRecover_deferred hk (l::cs)
 have U:step P (lone (b.atR a (.inRegion ops (0::List.range' 1 os.length)::.code rest::k)) (l::cs) w) =
   .next (lone (b.atR (a.put o.dst (EV u).1) (.inRegion ops (List.range' 1 os.length)::.code rest::k)) ({ l with mode:=(EV u).2 }::cs) w):=by
  refine step_lone_go ?_;rw[a1,<-a3];simp only[Frame.atR,E]at O ⊢
  cases r:recoverD (l::cs) with
  |none =>
   have e1:(EV u)=(.nilIface,u):=by
    unfold EV;split
    ·exfalso;rename_i v older;rw[recoverD,hu]at r;cases r
    ·rfl
   have V:({ l with mode:=u }:Frame)=l:=by subst hu;rfl
   rw[e1];simp[stepG.apply,hx,O,r,V]
  |some p =>
   obtain⟨v,M⟩:=p
   have e1:(EV u).1=v/\{ l with mode:=(EV u).2 }::cs=M:=by
    simp only[recoverD]at r;split at r
    ·rename_i v' older hm;simp only[JK,Xm]at r;have a7:u=.panicking ({ v:=v',recovered:=false,goexit:=false }::older):=by rw[<-hu,hm]
     subst a7;exact⟨r.1,r.2⟩
    ·cases r
   obtain⟨e1,V⟩:=e1;rw[e1,V];simp[stepG.apply,hx,O,r]
 have a8:FI n (CQ F d (EV u).1) (a.put o.dst (EV u).1):=by
  obtain⟨z,h1,_,h3⟩:=ha.put (d:=o.dst) (v:=(EV u).1) (k:=λG=>G=CQ F d (EV u).1) (by
   rw[hd];show(match Nat.blt d n with|true=>_|false=>False);have:Nat.blt d n=true:=by simp_all
   rw[this])
  exact h3 ▸ h1
 have C:=vZ hT (md:=none) (by rw[a0];rfl) ops (CQ F d (EV u).1) _ _ os (λ_=>false) _ w _ a8 (λ_ _=>rfl) h
 have a4:=(wpOpsIn_eq_wpListIn (F:=fw none) (n:=0) (P:=P) (ops:=ops) (Q:=LQ n (CQ F d (EV u).1) (λt=>false || HM os t) (λz w'=>S P T n rest K z w') (λz c w'=>K.pan z c w')) os 1 (λj=>by
  rw[<-Jj,ho,Xv];rfl))
 rw[<-a4]at C;have y:(fw none).room (({ l with mode:=(EV u).2 }::cs).length+1+0):=zQz none _;obtain⟨e,a',w',hq,J⟩:=wp_opsIn _ _ _ C b (.code rest::k) ({ l with mode:=(EV u).2 }::cs) E trivial y
 have L:StepsIn (Machine.fenced P Fence.wide) P (lone (b.atR a (.code (.seq (.region i ops false) rest)::k)) (l::cs) w) (lone (b.atR (a.put o.dst (EV u).1) (.inRegion ops (List.range' 1 os.length)::.code rest::k)) ({ l with mode:=(EV u).2 }::cs) w):=by
  refine .head i0 stepR_seq (.head i1 ?_ (.one i2 U));rw[<-H];exact stepR_region
 cases e with
 |normal =>
  obtain⟨z,h1,_,h3⟩:=hq;obtain⟨V,a2,w2,W,X⟩:=Ti hT rest K z w' h3 none (by rw[a0];rfl) a' h1 b k ({ l with mode:=(EV u).2 }::cs) E trivial y;have Y:StepsIn (Machine.fenced P Fence.wide) P _ _:=J;have Z:ArrivesIn (Machine.fenced P Fence.wide) P _ b k _ V a2 w2:=X;refine⟨V,a2,{ l with mode:=(EV u).2 }::cs,w2,rfl,⟨?_,rfl⟩,Ya L (Ya Y Z)⟩;cases V<;>simp only[KS.lift]at W ⊢<;>first|exact W.elim|(obtain⟨G,g1,_,g3⟩:=W;exact⟨G,g1,(λ_ ht=>by cases ht),g3⟩)
 |panic c =>
  obtain⟨z,h1,_,h3⟩:=hq;obtain⟨a5,hs⟩:=J;exact⟨.panic c,a',{ l with mode:=(EV u).2 }::cs,w',rfl,⟨⟨z,h1,(λ_ ht=>by cases ht),h3⟩,rfl⟩,Ya L ⟨a5,hs⟩⟩
 |exit i=>exact hq.elim
 |goto i=>exact hq.elim
 |ret=>exact hq.elim
 |outgrown=>exact hq.elim
theorem Lm.enter(J:T.ok P=true)(C:T.round=false){g:FuncId}{fn:Func}[r:AB P g fn n]{args:Array Value}{u:FrameMode}{R:FrameMode->World->Prop}{ops:Array Oper}{rest:Code}{o:Oper}{os:List Oper}{d:Nat}
  (L:FC fn=.seq (.region i ops false) rest)(H:fn.results.toList=[])(M:ops.toList=o::os)(O:o.guard=none)(hd:o.dst=some d)(hdn:Nat.blt d n=true)(Q:∀(ρ:Operand->Value) (w:World),(execOp ρ o).run P w=.ok .recover w)
  (U:Nat.ble args.size n=true)(V:Nat.ble n 4294967296=true)
  (h:Dv P T n ops.toList os (CQ (KN args.toList) d (EV u).1) (λW w'=>S P T n rest (Pa (R (EV u).2)) W w') (λ_ _ _=>False) w):Lm P g args u w R:=by
 have X:=r.hn;subst X;obtain⟨c,t⟩:=Xx.1 r.hb;have v:FC fn=c:=by simp[FC,t]
 rw[L]at v;refine⟨⟨fn,r.hf,r.hb,r.hm⟩,callsDIn_of_wpSIn r.hf t trivial λI cs Y=>?_⟩;rw[<-v];have x:d<fn.ntmps:=by simp_all
 have Z:=zOz J C (i:=i) (K:=Pa (R (EV u).2)) (cs:=cs) (u:=u) M O hd x Q Y (vO args fn.ntmps (Vf U) (Vf V)) h;intro b k h1 h2 h3 h4;obtain⟨e,a',E,w',hl,⟨f,y⟩,z⟩:=Z b k h1 h2 h3 h4;refine⟨e,a',E,w',hl,?_,z⟩
 have l:∀tmps:Array Value,(results fn tmps).run P w'=.ok (.tuple #[]) w':=by
  intro tmps;have:fn.results=#[]:=by simp_all
  simp[results,this]
 cases e<;>simp only[KS.lift,Pa]at f<;>simp only[bodyPostS]
 ·obtain⟨G,A,_,p,F⟩:=f;exact⟨by rw[A.defers];exact p,_,y,_,l _,F⟩
 ·obtain⟨G,_,_,p⟩:=f;exact p.elim
 ·obtain⟨G,A,_,p,F⟩:=f;exact⟨by rw[A.defers];exact p,_,y,_,l _,F⟩
 ·obtain⟨G,A,_,p⟩:=f;exact p.elim
end
open Go Go.Proofs
set_option maxRecDepth 10000
theorem nL:∀{l:U8} {c:UInt8},(∀x∈l,128<=x.toNat)->c.toNat<128->(E1 (l++[c])↔(l=[]\/c.toNat≠0))
 |[],c,_,b=>by simp[E1,b]
 |[d],c,h,b=>by
  have hd:=h d Qs;simp[E1,b,hd]
 |d::e::r,c,h,b=>by
  have f:=nL (l:=e::r) (λx o=>h x (QF _ o)) b;have hd:=h d Qs;show(128<=d.toNat/\E1 (e::(r++[c]))/\(r++[c]=[]->e.toNat≠0))↔_;rw[show e::(r++[c])=(e::r)++[c] from rfl,f];simp[hd]
theorem zOg{l t:U8}{a:Nat}{c:UInt8}(hd:s.drop a=l++c::t)(h:∀x∈l,128<=x.toNat)(o:c.toNat<128)(n:Nat):FP s a n↔(n=DB (l++[c])/\n<=2147483647/\(l=[]\/c.toNat≠0)):=by
 have d:s.drop a=(l++[c])++t:=by rw[hd];simp
 rw[nR d (GC.snoc h o) n,<-nL h o];constructor
 ·rintro⟨b,e,f⟩;exact⟨e,b,by rw[<-f];exact Yo n⟩
 ·rintro⟨b,e,f⟩;exact⟨e,b,by rw[b];exact oU f⟩
theorem TO(k:Nat):(2:Nat) ^ (7*k)=128 ^ k:=by rw[Nat.pow_mul]
theorem uR{a:Int}{b:Nat}(B:Bk w b [Ag s,.int .i64 a,.bool false] 445)(hs:s.length<=4611686018427387904):
  Sp PP 296 #[.pointer (some ⟨b,0,none⟩)] w λv w' =>
   ((∃A n:Nat,a=(A:Int)/\FP s A n/\v=.int .i64 (n:Int)/\Bk w' b [Ag s,.int .i64 ((A+(AL n).length:Nat):Int),.bool false] 445) \/
   ((∀A n:Nat,a=(A:Int)->¬FP s A n)/\∃x a':Int,v=.int .i64 x/\Bk w' b [Ag s,.int .i64 a',.bool true] 445))/\Fr (λi=>i=b) w w':=by
 have p:(⟨s.toArray⟩:ByteArray).size=s.length:=rfl;refine eN ?_;refine dQ 23 λQ e1=>tX B rfl nf (tX B rfl nf (ite (λh0=>?_) (λh0=>?_)))
 ·have U:=B.mv (w:=Q);refine rS U [.bool true] (NX _) λu2 V W _=>?_;exact⟨.inr ⟨λA n e=>by omega,0,a,rfl,V⟩,(fE w Q).trans W⟩
 refine tX B rfl nf (tX B rfl nf (ite (λX=>?_) (λX=>?_)))
 ·have U:=B.mv (w:=Q);refine rS U [.bool true] (NX _) λu2 V W _=>?_;refine⟨.inr ⟨λA n e r=>?_,0,a,rfl,V⟩,(fE w Q).trans W⟩;have:=zQr r;rw[p]at X;omega
 rw[p]at X;have F:∃A:Nat,a=(A:Int):=⟨a.toNat,by omega⟩;obtain⟨A,rfl⟩:=F;refine dQ 12 λu2 e2=>tX B rfl nf (tX B rfl nf (kY (by rw[p];omega) (gE ?_)));refine cO 44 [2,4,5] 3 43 5 (λk v u=>∃l t:U8,v=.int .i64 (DB l:Nat)/\s.drop A=l++t/\l.length=k/\(∀x∈l,128<=x.toNat)/\AC w u) ⟨[],s.drop A,rfl,rfl,rfl,by simp,stp⟩ ?_;rintro k _ g u hk ⟨l,t,rfl,hd,G,d,e⟩;have H:s.length - A=l.length+t.length:=by have:=congrArg List.length hd;simpa using this
 have Y:DB l<128 ^ k:=by rw[<-G];exact rZ l
 have hW:128 ^ k<=34359738368:=XR (by decide) hk;refine ite (λAY=>?_) (λZ=>?_)
 ·rw[p]at AY
  obtain⟨c,E,rfl⟩:∃c E,t=c::E:=by
   cases t with
   |nil=>simp at H;omega
   |cons c E=>exact⟨c,E,rfl⟩
  have I:s[A+k]? = some c:=by
   rw[<-Vz,hd,<-G];simp
  have a0:k<=4:=by omega
  have a4:128 ^ k<=268435456:=XR (by decide) a0;have a1:=c.toNat_lt;have a2:c.toNat % 128<=127:=by omega
  have a3:c.toNat % 128*128 ^ k<=127*128 ^ k:=Ji _ a2;have J:DB (l++[c])=DB l+c.toNat % 128*2 ^ (7*k):=by rw[lX,G,TO,Nat.mul_comm]
  refine dQ 13 λu3 e3=>tX B rfl nf (tX B rfl nf (rF (A+k) (ZW I (VU (z:=(c.toNat:Int)) (TR (by omega) (by omega)) ?_))));refine Kl (by omega) (by omega) ?_;refine rF (7*k) (fM (z:=((c.toNat % 128*2 ^ (7*k):Nat):Int)) (by omega) (by rw[QW];push_cast;rfl) (by rw[TO];omega) ?_);refine AI.of (v:=.int .i64 ((DB (l++[c]):Nat):Int)) (by rw[J];exact Ut (by rw[TO];exact Y) (by rw[TO];omega) _) ?_;clear J;refine ite (λhc=>?_) (λhc=>?_)
  ·have f:=zOg hd d (by omega:c.toNat<128);have S:=B.mv (w:=u3);have F3:Fr (λi=>i=b) w u3:=fE w u3;refine ite (λK=>?pp) (λK=>?tt)
   case' pp =>
    have L:∀n:Nat,¬FP s A n:=λn r=>by have:=(f n).1 r;omega
   case' tt=>refine ite (λhz=>?uu) (λhz=>?rr)
   case' uu=>refine ite (λhi=>?qq) (λhi=>?ss)
   case' qq =>
    have L:∀n:Nat,¬FP s A n:=λn r=>by
     have h3:=(f n).1 r;have F:=h3.2.2;rcases F with h|h
     ·subst h;simp at G;omega
     ·omega
   case' rr =>
    have o:FP s A (DB (l++[c])):=(f _).2 ⟨rfl,by omega,.inr (by omega)⟩
   case' ss =>
    have o:FP s A (DB (l++[c])):=(f _).2 ⟨rfl,by omega,.inl (Qn (by omega))⟩
   case' pp|qq =>
    refine rS S [.bool true] (NX _) λu4 C M _=>rX C rfl (rA (rA (rS C [.int .i64 _] (HT _) λu5 B5 f5 _=>?_)));exact⟨.inr ⟨λA' n e r=>L n (Int.ofNat_inj.1 e ▸ r),_,_,rfl,B5⟩,(F3.trans M).trans f5⟩
   case' rr|ss =>
    refine rS S [.bool false] (NX _) λu4 C M _=>rX C rfl (rA ?_)
    refine IV (y:=((A+(AL (DB (l++[c]))).length:Nat):Int)) (by
     have h5:AL (DB (l++[c]))=l++[c]:=((nR (by rw[hd];simp:s.drop A=(l++[c])++E) (GC.snoc d (by omega)) _).1 o).2.2
     rw[h5];simp;omega) (by
     have:=LH (n:=DB (l++[c])) o.1;omega) ?_
    refine rS C [.int .i64 _] (HT _) λu5 B5 f5 _=>?_;exact⟨.inl ⟨A,_,rfl,o,rfl,B5⟩,(F3.trans M).trans f5⟩
  ·refine rA ⟨rfl,by omega,l++[c],E,rfl,by rw[hd];simp,by simp[G],λx O=>?_,stp⟩;have F:=Qf.1 O;rcases F with O|O
   ·exact d x O
   ·rw[Qc.1 O];omega
 ·rw[p]at Z;have S:=B.mv (w:=u);refine rS S [.bool true] (NX _) λu4 C M _=>?_;refine⟨.inr ⟨λA' n e r=>?_,0,_,rfl,C⟩,(fE w u).trans M⟩;have hA:A'=A:=by omega
  subst hA;refine yW hd d ?_ n r;by_cases h5:l.length=5
  ·exact .inl h5
  ·right;exact Qn (by omega)
theorem zE0{v:Value}:Sp PP 295 #[v] w λr w'=>r=.func (.func 296) #[v] #[]/\w'=w:=by
 refine eN ?_;exact⟨rfl,rfl⟩
theorem zHu{a:Int}(h:s.length<=4611686018427387904):Sp PP 294 #[Ag s,.int .i64 a,.func (.func 295) #[] #[]] w λv w'=>uX s a v/\AC w w':=by
 refine eN ?_;refine AJ (cs:=[Ag s,.int .i64 a,.bool false]) rfl (BM λb w1 n1 l=>AA (zE0) ?_);rintro _ _ ⟨rfl,rfl⟩;refine AA (uR l h) ?_;rintro v e ⟨⟨A,n,rfl,o,rfl,c⟩|⟨d,x,r,rfl,c⟩,f⟩
 ·have p:AC w e:=n1.st f;refine rX c rfl (dQ 8 λt y=>tX c rfl nf ?_);exact⟨.inl ⟨A,n,rfl,o,rfl⟩,stp⟩
 ·have p:AC w e:=n1.st f;refine rX c rfl ?_;exact⟨.inr ⟨d,rfl⟩,stp⟩
theorem nM{a:Int}(c:s.length<=4611686018427387904):Sp PP 212 #[Ag s,.int .i64 a] w λv w'=>uX s a v/\AC w w':=by
 refine eN ?_;refine AA (zHu c) ?_;rintro v e ⟨⟨A,n,rfl,d,rfl⟩|⟨b,rfl⟩,f⟩
 ·exact⟨.inl ⟨A,n,rfl,d,rfl⟩,stp⟩
 ·exact⟨.inr ⟨b,rfl⟩,stp⟩
abbrev DA:List PanicEntry:=[{ v:=.iface 24 (.int .i64 220),recovered:=false }]
theorem MC{b:Bool}:El PP 184 #[.bool b] w (λv w'=>b=true/\v=.tuple #[]/\w'=w) (λc w'=>b=false/\c=DA/\w'=w):=by
 refine HB Aa rfl ?_;cases b
 ·refine Hm ?_;exact FG ⟨rfl,rfl,rfl⟩
 ·exact⟨rfl,rfl,rfl⟩
theorem kX{A b:Nat}(B:Bk w b [Ag s,.int .i64 (A:Int)] 363)(o:s.length<=4611686018427387904):
  El PP 182 #[.pointer (some ⟨b,0,none⟩)] w (λv w'=>∃n:Nat,FP s A n/\v=.int .i64 (n:Int)/\Bk w' b [Ag s,.int .i64 ((A+(AL n).length:Nat):Int)] 363/\Fr (λi=>i=b) w w')
   (λc w'=>c=DA/\(∀n:Nat,¬FP s A n)/\Fr (λi=>i=b) w w'):=by
 refine HB Aa rfl ?_;refine dQ 16 λC E=>tX B rfl nf (tX B rfl nf (AA (nM (a:=(A:Int)) o) ?_));rintro v F ⟨⟨p,n,e,r,rfl⟩|⟨f,rfl⟩,l⟩
 ·have t:A=p:=Int.ofNat_inj.1 e;obtain rfl:=t;refine⟨l.e,?_⟩;refine AO MC ?_ ?_
  ·rintro _ d ⟨_,rfl,rfl⟩;have x:=B.mv (w:=d);refine rS x [.int .i64 _] (HT _) λG y z _=>?_;exact⟨n,r,rfl,y,(fE w d).trans z⟩
  ·rintro _ d ⟨h,_⟩;cases h
 ·refine⟨l.e,?_⟩;refine AO MC ?_ ?_
  ·rintro _ d ⟨h,_⟩;cases h
  ·rintro _ d ⟨_,rfl,rfl⟩;exact⟨rfl,λn=>f A n rfl,fE w d⟩
theorem zR{A b:Nat}(B:Bk w b [Ag s,.int .i64 (A:Int)] 363)(o:s.length<=4611686018427387904):
  El PP 183 #[.pointer (some ⟨b,0,none⟩),.int .i64 (m:Int)] w (λv w'=>∃n:Nat,FP s A n/\n<=m/\v=.int .i64 (n:Int)/\Bk w' b [Ag s,.int .i64 ((A+(AL n).length:Nat):Int)] 363/\Fr (λi=>i=b) w w')
   (λc w'=>c=DA/\(∀n:Nat,FP s A n->¬n<=m)/\Fr (λi=>i=b) w w'):=by
 refine HB Aa rfl ?_;refine AO (kX B o) ?_ ?_
 ·rintro _ p ⟨n,d,rfl,r,e⟩;refine ite (λh=>?_) (λh=>?_)
  ·refine AO MC ?_ ?_
   ·rintro _ x ⟨_,rfl,rfl⟩;exact⟨n,d,by omega,rfl,r,e⟩
   ·rintro _ y ⟨h,_⟩;cases h
  ·refine AO MC ?_ ?_
   ·rintro _ y ⟨h,_⟩;cases h
   ·rintro _ x ⟨_,rfl,rfl⟩;refine⟨rfl,λk z=>?_,e⟩;obtain⟨_,t,C⟩:=d;obtain⟨_,E,f⟩:=z;have:=(Hw (C.symm.trans f)).1;omega
 ·rintro _ p ⟨rfl,l,e⟩;exact⟨rfl,λn d=>(l n d).elim,e⟩
theorem uQ{A b:Nat}(B:Bk w b [Ag s,.int .i64 (A:Int)] 363):
  El PP 262 #[.pointer (some ⟨b,0,none⟩)] w (λv w'=>v=.tuple #[]/\A=s.length/\AC w w') (λc w'=>c=DA/\A≠s.length/\AC w w'):=by
 have d:(⟨s.toArray⟩:ByteArray).size=s.length:=rfl;refine HB Aa rfl ?_;refine dQ 11 λl o=>tX B rfl nf (tX B rfl nf (ite (λh=>?_) (λh=>?_)))
 ·refine AO MC ?_ ?_
  ·rintro _ e ⟨_,rfl,rfl⟩;exact⟨Fr.refl _ _,rfl,by rw[d]at h;omega,stp⟩
  ·rintro _ f ⟨h,_⟩;cases h
 ·refine AO MC ?_ ?_
  ·rintro _ f ⟨h,_⟩;cases h
  ·rintro _ e ⟨_,rfl,rfl⟩;exact Mq rfl rfl ⟨rfl,by rw[d]at h;omega,stp⟩
def Fq {α:Type} (f:U8->Option (α×U8)) (s:U8) (A:Nat) (x:α) (A':Nat):Prop:=A'<=s.length/\f (s.drop A)=some (x,s.drop A')
theorem NW{A:Nat}(h:FP s A n):Fq EH s A n (A+(AL n).length):=by
 obtain⟨c,t,b⟩:=h;have d:=congrArg List.length b;rw[QR,Qb]at d;have e:=JI.2 (jT n);refine⟨by omega,Yq.2 ⟨c,?_⟩⟩;rw[<-VZ,b,V0]
theorem NZ{A:Nat}(h:∀n,¬FP s A n):EH (s.drop A)=none:=zPi.2 λn t b c=>h n ⟨b,t,c⟩
theorem Pm{r t:U8}(h:EH r=some (n,t)):n<=2147483647:=(Yq.1 h).1
theorem kS{A b:Nat}(B:Bk w b [Ag s,.int .i64 (A:Int),.bool false] 445)(o:s.length<=4611686018427387904):
  Sp PP 296 #[.pointer (some ⟨b,0,none⟩)] w λv w' =>
   ((∃n l:Nat,Fq EH s A n l/\v=.int .i64 (n:Int)/\Bk w' b [Ag s,.int .i64 (l:Int),.bool false] 445) \/
   (EH (s.drop A)=none/\∃x p:Int,v=.int .i64 x/\Bk w' b [Ag s,.int .i64 p,.bool true] 445))/\Fr (λi=>i=b) w w':=
 (uR B o).mono λv w' ⟨h,f⟩=>⟨by
  rcases h with⟨r,n,e,c,d,t⟩|⟨c,d⟩
  ·have y:r=A:=by omega
   obtain rfl:=y;exact .inl ⟨n,_,NW c,d,t⟩
  ·exact .inr ⟨NZ λn=>c A n rfl,d⟩,f⟩
theorem sP{A:Nat}(l:s.length<=4611686018427387904):Sp PP 212 #[Ag s,.int .i64 (A:Int)] w λv w' =>
  ((∃n d:Nat,Fq EH s A n d/\v=.tuple #[.int .i64 (n:Int),.int .i64 (d:Int),.bool true])\/(EH (s.drop A)=none/\v=.tuple #[.int .i64 0,.int .i64 0,.bool false]))/\AC w w':=
 (nM l).mono λv w' ⟨h,f⟩=>⟨by
  rcases h with⟨o,n,e,b,c⟩|⟨b,c⟩
  ·have p:o=A:=by omega
   obtain rfl:=p;exact .inl ⟨n,_,NW b,c⟩
  ·exact .inr ⟨NZ λn=>b A n rfl,c⟩,f⟩
theorem AM(s:U8):(⟨s.toArray⟩:ByteArray).size=s.length:=by simp[ByteArray.size]
theorem qA{r t:U8}(h:EH r=some (n,t)):GT r=if n<=4000/\n<=t.length then some (t.take n,t.drop n) else none:=by unfold GT;rw[h]
theorem zPk{r:U8}(h:EH r=none):GT r=none:=by unfold GT;rw[h]
theorem vA{r t:U8}(h:EH r=some (n,t)):DO r=if n<=4000 then Ae EH n t else none:=by unfold DO;rw[h]
theorem uJ{r:U8}(h:EH r=none):DO r=none:=by unfold DO;rw[h]
theorem zFt{A b:Nat}(B:Bk w b [Ag s,.int .i64 (A:Int),.bool false] 445)(I:s.length<=4611686018427387904):
  Sp PP 302 #[.pointer (some ⟨b,0,none⟩)] w λv w' =>
   ((∃x E,Fq GT s A x E/\v=Ag x/\Bk w' b [Ag s,.int .i64 ((E:Nat):Int),.bool false] 445) \/
   (GT (s.drop A)=none/\∃F:Int,v=Ag []/\Bk w' b [Ag s,.int .i64 F,.bool true] 445))/\Fr (λi=>i=b) w w':=by
 refine eN ?_;refine AA (kS B I) ?_;rintro v w1 ⟨⟨n,d,o,rfl,h⟩|⟨p,x,F,rfl,h⟩,G⟩
 case' inr =>
  refine dQ 22 λH r=>tX h rfl nf (rS h [.bool true] (NX _) λl c f _=>?_);exact⟨.inr ⟨zPk p,_,rfl,c⟩,(G.trans (Fr.fr r.e)).trans f⟩
 have O:=Pm o.2;have t:=qA o.2;have J:=o.1;refine dQ 22 λH r=>tX h rfl nf ?_;have C:=h.mv (w:=H);have y:=G.trans (Fr.fr (D:=λi=>i=b) r.e);refine ite (λK=>?_) (λK=>?_)
 ·refine rS C [.bool true] (NX _) λl c f _=>?_;exact⟨.inr ⟨by rw[t,if_neg (by omega)],_,rfl,c⟩,y.trans f⟩
 refine tX C rfl nf (tX C rfl nf ?_);have Q:=AM s;refine rA (ite (λL=>?_) (λL=>?_))
 ·refine rS C [.bool true] (NX _) λl c f _=>?_;exact⟨.inr ⟨by rw[t,if_neg (by rw[QR];omega)],_,rfl,c⟩,y.trans f⟩
 have z:d+n<=s.length:=by omega
 refine rX C rfl (rF (d+n) (rS C [.int .i64 ((d+n:Nat):Int)] (HT _) λl c f _=>?_));have c:Bk l b [Ag s,.int .i64 ((d+n:Nat):Int),.bool false] 445:=c;refine dQ 16 λS M=>tX c rfl nf (tX c rfl nf ?_);refine rF d (tX c rfl nf (kH rfl rfl (by omega) (by omega) ?_));refine⟨.inl ⟨(s.drop d).take n,d+n,⟨z,?_⟩,?_,c.mv⟩,(y.trans f).trans (Fr.fr M.e)⟩
 ·rw[t,if_pos ⟨by omega,by rw[QR];omega⟩,VZ]
 ·exact congrArg Value.string ((Na s d (d+n)).trans (by rw[show d+n - d=n by omega]))
theorem zF3{v:Value}:Sp PP 301 #[v] w λr w'=>r=.func (.func 302) #[v] #[]/\w'=w:=by
 refine eN ?_;exact⟨rfl,rfl⟩
theorem zFs{A:Nat}(l:s.length<=4611686018427387904):Sp PP 300 #[Ag s,.int .i64 (A:Int),.func (.func 301) #[] #[]] w λv w' =>
  ((∃x c,Fq GT s A x c/\v=.tuple #[Ag x,.int .i64 ((c:Nat):Int),.bool true])\/(GT (s.drop A)=none/\v=.tuple #[Ag [],.int .i64 0,.bool false]))/\AC w w':=by
 refine eN ?_;refine AJ (cs:=[Ag s,.int .i64 (A:Int),.bool false]) rfl (BM λb w1 n1 o=>AA (zF3) ?_);rintro _ _ ⟨rfl,rfl⟩;refine AA (zFt o l) ?_;rintro v f ⟨⟨x,c,p,rfl,d⟩|⟨e,t,rfl,d⟩,h⟩
 ·have r:AC w f:=n1.st h;refine rX d rfl (dQ 8 λy z=>tX d rfl nf ?_);exact⟨.inl ⟨x,c,p,rfl⟩,stp⟩
 ·have r:AC w f:=n1.st h;refine rX d rfl ?_;exact⟨.inr ⟨e,rfl⟩,stp⟩
theorem mU{A:Nat}(d:s.length<=4611686018427387904):Sp PP 216 #[Ag s,.int .i64 (A:Int)] w λv w' =>
  ((∃x b,Fq GT s A x b/\v=.tuple #[Ag x,.int .i64 ((b:Nat):Int),.bool true])\/(GT (s.drop A)=none/\v=.tuple #[Ag [],.int .i64 0,.bool false]))/\AC w w':=by
 refine eN ?_;refine AA (zFs d) ?_;rintro v f ⟨⟨x,b,e,rfl⟩|⟨c,rfl⟩,h⟩
 ·exact⟨.inl ⟨x,b,e,rfl⟩,stp⟩
 ·exact⟨.inr ⟨c,rfl⟩,stp⟩
def AH (l:List Nat):List Int:=l.map λn:Nat=>(n:Int)
theorem zDU{A b:Nat}(B:Bk w b [Ag s,.int .i64 (A:Int),.bool false] 445)(hs:s.length<=4611686018427387904):
  Sp PP 299 #[.pointer (some ⟨b,0,none⟩)] w λv w' =>
   ((∃l r,Fq DO s A l r/\AD w.heap.size 3 w' v (AH l)/\Bk w' b [Ag s,.int .i64 ((r:Nat):Int),.bool false] 445) \/
   (DO (s.drop A)=none/\∃t:Int,Bk w' b [Ag s,.int .i64 t,.bool true] 445))/\Fr (λi=>i=b) w w':=by
 have a1:=B.lt;refine eN ?_;refine AA (kS B hs) ?_;rintro v w1 ⟨⟨n,L,M,rfl,C⟩|⟨c,x,t,rfl,C⟩,Q⟩
 case' inr =>
  refine rX C rfl (rS C [.bool true] (NX _) λu3 E F _=>cO 23 [2] 3 22 0 (λk v u=>k=0/\Fr (λi=>i=b) w u/\Bk u b [Ag s,.int .i64 t,.bool true] 445) ⟨rfl,Q.trans F,E⟩ ?_);rintro k v g u hk ⟨rfl,o,f⟩;refine ite (λh=>?_) (λh=>⟨.inr ⟨uJ c,_,f⟩,o⟩);refine rX f rfl ?_;exact⟨.inr ⟨uJ c,_,f⟩,o⟩
 have hn:=Pm M.2;have K:=vA M.2;have S:=M.1;refine rX C rfl (ite (λU=>?_) (λU=>?_))
 ·refine rS C [.bool true] (NX _) λu3 E F _=>?_;have c:DO (s.drop A)=none:=by rw[K,if_neg (by omega)]
  refine cO 23 [2] 3 22 0 (λk v u=>k=0/\Fr (λi=>i=b) w u/\Bk u b [Ag s,.int .i64 (L:Int),.bool true] 445) ⟨rfl,Q.trans F,E⟩ ?_;rintro k v g u hk ⟨rfl,o,f⟩;refine ite (λh=>?_) (λh=>⟨.inr ⟨c,_,f⟩,o⟩);refine rX f rfl ?_;exact⟨.inr ⟨c,_,f⟩,o⟩
 rw[if_pos (by omega)]at K;refine rS C [.bool false] (NX _) λu3 E F _=>?_
 refine cO 23 [2] 3 22 n (λk v u=>Fr (λi=>i=b) w u/\((∃d r,d.length=k/\r<=s.length/\AD w.heap.size 3 u v (AH d)/\Bk u b [Ag s,.int .i64 ((r:Nat):Int),.bool false] 445/\Gt d (Ae EH (n - k) (s.drop r))=Ae EH n (s.drop L)) \/
   (DO (s.drop A)=none/\∃t:Int,Bk u b [Ag s,.int .i64 t,.bool true] 445))) ⟨Q.trans F,.inl ⟨[],L,rfl,S,AD.nil _ _ _,E,by rw[dR,JF]⟩⟩ ?_
 rintro k v g u hk ⟨o,⟨d,r,hl,V,O,f,W⟩|⟨c,t,f⟩⟩
 ·refine ite (λh=>?_) (λh=>?_)
  ·refine rX f rfl (AA (kS f hs) ?_);rintro v2 u1 ⟨⟨m,A2,G,rfl,X⟩|⟨c,x,t,rfl,X⟩,y⟩
   ·have O2:=O.frc y f;refine bS (m:Int) λb4 p H _ Y=>?_;have z:w.heap.size<=p.heap.size:=by have U:=o.size;have h2:=y.size;have h3:=H.e.size;omega
    refine FR ⟨rfl,rfl⟩ (O2.up (w':=p)) Y z (by simp[AH];omega) λv5 u5 O5 I=>?_;have Z:=(X.mv (w:=p)).fro (O2.up (w':=p)) I;have a0:AD w.heap.size 3 u5 v5 (AH (d++[m])):=by rw[show AH (d++[m])=AH d++[(m:Int)] by simp[AH]];exact O5
    refine rA ⟨rfl,by omega,Fr.new ((o.trans y).trans (Fr.fr H.e)) I (λi hi=>hi.1),.inl ⟨d++[m],A2,by simp[hl],G.1,a0,Z,?_⟩⟩;rw[<-W,show n - k=(n - (k+1))+1 by omega,TM G.2]
   ·have J:DO (s.drop A)=none:=by
     rw[K,<-W,show n - k=(n - (k+1))+1 by omega,Zq c];rfl
    refine bS (x:Int) λb4 p H _ Y=>?_;have z:w.heap.size<=p.heap.size:=by have U:=o.size;have h2:=y.size;have h3:=H.e.size;omega
    refine FR ⟨rfl,rfl⟩ ((O.frc y f).up (w':=p)) Y z (by simp[AH];omega) λv5 u5 O5 I=>?_;have Z:=(X.mv (w:=p)).fro ((O.frc y f).up (w':=p)) I (by decide);exact rA ⟨rfl,by omega,Fr.new ((o.trans y).trans (Fr.fr H.e)) I (λi hi=>hi.1),.inr ⟨J,_,Z⟩⟩
  ·have q_:k=n:=by omega
   obtain rfl:=q_;refine⟨.inl ⟨d,r,⟨V,?_⟩,O,f⟩,o⟩;rw[K,<-W,JN];simp[Ae,Gt]
 ·refine ite (λh=>?_) (λh=>⟨.inr ⟨c,_,f⟩,o⟩);refine rX f rfl ?_;exact⟨.inr ⟨c,_,f⟩,o⟩
theorem zEj{v:Value}:Sp PP 298 #[v] w λr w'=>r=.func (.func 299) #[v] #[]/\w'=w:=by
 refine eN ?_;exact⟨rfl,rfl⟩
abbrev Yu (s:U8) (A:Nat) (w:World) (v:Value) (w':World):Prop:=
 ((∃l A' v',Fq DO s A l A'/\v=.tuple #[v',.int .i64 ((A':Nat):Int),.bool true]/\AD w.heap.size 3 w' v' (AH l))\/(DO (s.drop A)=none/\v=.tuple #[.slice none 0 0,.int .i64 0,.bool false]))/\AC w w'
theorem zGq{A:Nat}(o:s.length<=4611686018427387904):Sp PP 297 #[Ag s,.int .i64 (A:Int),.func (.func 298) #[] #[]] w (Yu s A w):=by
 refine eN ?_;refine AJ (cs:=[Ag s,.int .i64 (A:Int),.bool false]) rfl (BM λb w1 n1 p=>AA (zEj) ?_);rintro _ d ⟨rfl,rfl⟩;refine AA (zDU p o) ?_;rintro v f ⟨⟨l,r,t,O,c⟩|⟨e,z,c⟩,h⟩
 ·have x:AC w f:=n1.st h;refine rX c rfl (dQ 8 λy C=>tX c rfl nf ?_);exact⟨.inl ⟨l,r,_,t,rfl,(O.up (w':=y)).mono (lz w d)⟩,stp⟩
 ·have x:AC w f:=n1.st h;refine rX c rfl ?_;exact⟨.inr ⟨e,rfl⟩,stp⟩
theorem zFr{A:Nat}(c:s.length<=4611686018427387904):Sp PP 214 #[Ag s,.int .i64 (A:Int)] w (Yu s A w):=by
 refine eN ?_;refine AA (zGq c) ?_;rintro v h ⟨⟨l,d,e,f,rfl,O⟩|⟨b,rfl⟩,o⟩
 ·exact⟨.inl ⟨l,d,e,f,rfl,O⟩,stp⟩
 ·exact⟨.inr ⟨b,rfl⟩,stp⟩
def DZ (s:ByteArray):U8:=AL s.size++s.data.toList
def Ll (l:List Nat):U8:=AL l.length++l.flatMap AL
theorem wA{s:ByteArray}(h:s.size<=4000):(DZ s).length<=4005:=by
 have b:s.data.toList.length=s.size:=Vc;have:=LH (n:=s.size) (by omega);unfold DZ;rw[Qb];omega
theorem zOp{l:List Nat}(h:k<l.length):(l.take (k+1)).flatMap AL=(l.take k).flatMap AL++AL l[k]:=by rw[Cs h,Jl];simp
theorem qN{l:List Nat}(h:∀n∈l,n<=2147483647):(l.flatMap AL).length<=5*l.length:=by
 induction l with
 |nil=>simp
 |cons n r b =>
  rw[JV,Qb,QA];have:=LH (h n (by simp));have:=b λm c=>h m (by simp[c]);omega
def Bl (x y:Int):Int:=if x<y then -1 else if y<x then 1 else 0
def Mv:List Int->Int
 |[]=>0
 |x::r=>if x=0 then Mv r else x
theorem jE{x:Int}:Sp PP 202 #[.int .i64 x] w λv w'=>v=.bool false/\w'=w:=by
 refine eN ?_;refine iF (· rfl) ?_;exact⟨rfl,rfl⟩
theorem Ms{x y:Int}:Sp PP 131 #[.int .i64 x,.int .i64 y] w λv w'=>v=.int .i64 (Bl x y)/\w'=w:=by
 unfold Bl;refine eN ?_;refine AA (jE) ?_;rintro v w1 ⟨rfl,rfl⟩;refine AA (jE) ?_;rintro v d ⟨rfl,rfl⟩;refine ite (λb=>?_) (λb=>?_)
 ·rw[if_pos b];exact⟨rfl,rfl⟩
 rw[if_neg b];refine ite (λc=>?_) (λc=>?_)
 ·rw[if_pos c];exact⟨rfl,rfl⟩
 rw[if_neg c];exact⟨rfl,rfl⟩
theorem zO7{l:List Int}(h:k<l.length):Mv (l.drop k)=if l[k]=0 then Mv (l.drop (k+1)) else l[k]:=by
 rw[JS h];rfl
theorem XW{c:Nat}{l:List Int}(h:AQ w (.slice a n c) l)(t:l.length<=1000000):Sp PP 130 #[.slice a n c] w λv w'=>v=.int .i64 (Mv l)/\w'=w:=by
 have d:=h.len;obtain rfl:=d;refine eN ?_;refine cN 8 [2,5] 8 l.length (λk u=>Mv (l.drop k)=Mv l/\u=w) ⟨rfl,rfl⟩ ?_;rintro k g u y ⟨hd,rfl⟩;refine ite (λAY=>?_) (λp=>?_)
 ·have b:k<l.length:=by omega
  refine Bv h (x:=l[k]) (by simp) λz A r=>AF (r.cell0 rfl) ?_;have e:=zO7 b;refine ite (λf=>?_) (λo=>?_)
  ·rw[if_neg f]at e;rw[<-hd,e];exact⟨rfl,rfl⟩
  ·have o:=Q2.1 o;rw[if_pos o]at e;exact rA ⟨rfl,b,by simp_all⟩
 ·have d:k=l.length:=by omega
  obtain rfl:=d;rw[Yh]at hd;rw[<-hd];exact⟨rfl,rfl⟩
theorem LP(x y:Int)(r:List Int):Mv (Bl x y::r)<0↔x<y\/x=y/\Mv r<0:=by
 rw[show Mv (Bl x y::r)=if Bl x y=0 then Mv r else Bl x y from rfl];have c:=XD x y;rcases c with h|h|h
 ·have e:Bl x y = -1:=by unfold Bl;rw[if_pos h]
  rw[e,if_neg (by decide)];exact⟨λ_=>.inl h,λ_=>by decide⟩
 ·have e:Bl x y=0:=by unfold Bl;rw[if_neg (by omega),if_neg (by omega)]
  rw[e,if_pos rfl];exact⟨λb=>.inr ⟨h,b⟩,λb=>b.elim (λd=>by omega) (·.2)⟩
 ·have e:Bl x y=1:=by unfold Bl;rw[if_neg (by omega),if_pos h]
  rw[e,if_neg (by decide)];exact⟨λb=>absurd b (by decide),λb=>by omega⟩
theorem or_nil:¬Mv []<0:=by decide
theorem Lc{α:Type}{b:α->α->Int}(lt:α->α->Prop)(h:∀x y,b x y<0↔lt x y)(c:∀x,¬lt x x)(d:∀x y z,lt x y->lt y z->lt x z)(e:∀x y z,¬lt x y->¬lt y z->¬lt x z):Go.Sort.SWO (ltOf b):=
 ⟨λx=>by simpa[ltOf,h]using c x,λx y z=>by simpa[ltOf,h]using d x y z,λx y z=>by
  have:=e x y z;simp only[ltOf,decide_eq_false_iff_not,h];exact this⟩
end Go.W
namespace Go.Proofs
open Go.Shelf Tryz
def Tryz.cmpT_ren:Go.Shelf.Ren:=⟨fun|106=>135|213=>204|265=>293|n=>n,fun|9=>9|3=>3|n=>n,fun|n=>n⟩
theorem Tryz.cmpT:Go.Proofs.Lays.n106 prog Tryz.cmpT_ren:={
 mixed:=by kernel_rfl
 f106:=W.ff func135
 f213:=W.ff func204
 f265:=W.ff func293
 t3:=underlying3
 a3:=isAgg3
 z3:=sizeOf3
 v3:=zeroValue3
 t9:=underlying9
 a9:=isAgg9
 z9:=sizeOf9
 v9:=zeroValue9 }
end Go.Proofs
namespace Go.W
open Go Go.Proofs
open AK (enc)
set_option maxRecDepth 10000
variable {B N hi i j k m n:Nat} {D R:Nat -> Prop} {P:Program} {T:Ce} {a:OA} {g:An} {q:FX} {s:U8} {u w w':World}
theorem dL:∀(a b:U8),Lib.compareBytes a b<0↔a<b
 |[],[]=>by simp[Lib.compareBytes]
 |[],_::_=>by simp[Lib.compareBytes]
 |_::_,[]=>by simp[Lib.compareBytes]
 |a::xs,b::ys=>by
  have d:=dL xs ys;unfold Lib.compareBytes;rw[List.cons_lt_cons_iff];split
  ·rename_i h;simp[h]
  ·rename_i h;split
   ·rename_i c;have:a≠b:=by rintro rfl;exact absurd c h
    simp[h,this]
   ·rename_i c
    have:a=b:=by
     rw[UInt8.lt_iff_toNat_lt]at h c;exact UInt8.toNat.inj (by omega)
    simp[this,d]
theorem mB{a b:ByteArray}:Sp PP 135 #[.string a,.string b] w λv w'=>v=.int .i64 (Lib.compareBytes a.data.toList b.data.toList)/\w'=w:=
 ⟨⟨_,Tryz.func135,rfl,rfl⟩,(Any.strings_Compare Tryz.cmpT a b w).mono λe w' h=>by obtain⟨rfl,rfl⟩:=h;exact⟨rfl,rfl⟩⟩
instance:AK BP:=⟨2,λx=>[.int .i64 (x.f:Int),.int .i64 (x.t:Int)],λ_=>rfl,by intro x u hu;simp at hu;rcases hu with rfl|rfl<;>rfl,by decide⟩
instance:Inhabited BP:=⟨⟨0,0⟩⟩
instance:UH PP 74 BP:=⟨by kernel_rfl,λd x y w=>⟨_,by
  rw[pR (l:=[(3,0),(3,1)]) (by kernel_rfl) (d+7)];exact aB rfl rfl (aB rfl rfl (mQ _ _ _ _)),by cases x;cases y;simp;omega⟩⟩
structure FY where
 n:Int
 es:SV
 ws:SV
instance:AK FY:=⟨3,λx=>[.int .i64 x.n,.slice x.es.a x.es.n x.es.c,.slice x.ws.a x.ws.n x.ws.c],λ_=>rfl,by intro x u hu;simp at hu;rcases hu with rfl|rfl|rfl<;>rfl,by decide⟩
def Me {α:Type} [AK α] (w:World) (vs:List SV) (ls:List (List α)):Prop:=vs.length=ls.length/\∀i (h:i<vs.length) (h':i<ls.length),AQ w vs[i].v ls[i]
theorem Me.up{α:Type}[AK α][Le w w']{vs:List SV}{b:List (List α)}(h:Me w vs b):Me w' vs b:=⟨h.1,λi c d=>(h.2 i c d).up⟩
structure Kt (w:World) (x:FY) (g:An) (vs:List SV):Prop where
 n:x.n=(g.n:Int)
 es:AQ w (.slice x.es.a x.es.n x.es.c) g.es
 ws:AQ w (.slice x.ws.a x.ws.n x.ws.c) vs
 rows:Me w vs g.ws
 small:g.es.length<=1000000/\vs.length<=1000000/\∀l∈g.ws,l.length<=1000000
 words:∀l∈g.ws,∀s∈l,s.size<=1000000
theorem Kt.up[Le w w']{x:FY}{vs:List SV}(h:Kt w x g vs):Kt w' x g vs:=⟨h.n,h.es.up,h.ws.up,h.rows.up,h.small,h.words⟩
theorem wB{s:ByteArray}(C:s.size<=1000000):Sp PP 78 #[.string s] w λv w'=>Ao (Fv s) v/\AC w w':=by
 have E:s.data.toList.length=s.size:=Vc;refine eN ?_;refine cN 7 [2,3] 6 s.size (λk u=>(∀c∈s.data.toList.take k,97<=c.toNat/\c.toNat<=122)/\AC w u) ⟨by simp,stp⟩ ?_;rintro k g u F ⟨b,e⟩;refine ite (λAY=>?_) (λz=>?_)
 ·have d:k<s.data.toList.length:=by omega
  have no:¬(97<=s.data.toList[k].toNat/\s.data.toList[k].toNat<=122)->¬Fv s:=λh A=>h (A.1 _ (Qa _));refine FT (c:=s.data.toList[k]) (Qd d) (ite (λo=>⟨.f (no (by omega)),stp⟩) (λo=>?_));refine FT (c:=s.data.toList[k]) (Qd d) (ite (λp=>⟨.f (no (by omega)),stp⟩) (λp=>?_));refine rA ⟨rfl,by omega,λt l=>?_,stp⟩;rw[Cs d]at l;have r:=Qf.1 l;rcases r with l|l
  ·exact b t l
  ·rw[Qc.1 l];omega
 ·have r:k=s.size:=by omega
  obtain rfl:=r;rw[Qj (by omega)]at b;refine Sd (λx=>?_) (λy=>⟨.f (λh=>?_),stp⟩)
  ·have G:s.size≠0:=λh=>x (by
    have:s.data.toList=[]:=Qn (by omega);have p:s.data=#[]:=by simpa using this
    exact congrArg ByteArray.mk p)
   refine ite (λo=>⟨.t ⟨b,by omega,by omega⟩,stp⟩) (λo=>⟨.f (λh=>by have:=h.2.2;omega),stp⟩)
  ·have:=h.2.1;rw[y]at this;exact absurd this (by decide)
theorem zG0{s:ByteArray}(b:s.size<=1000000):Sp PP 77 #[.string s] w λv w'=>Ao (¬Fv s) v/\AC w w':=by
 refine eN ?_;refine AA (wB b) ?_;rintro _ d ⟨⟨rfl,h⟩|⟨rfl,h⟩,e⟩
 ·exact⟨.f (λc=>c h),stp⟩
 ·exact⟨.t h,stp⟩
theorem zFi{c:Nat}{l:List ByteArray}{g:FuncId}{first cap:List Value}{p:ByteArray->Prop}(h:AQ w (.slice a n c) l)(E:l.length<=1000000)
  (z:∀r u,r∈l->Bp w u->Sp PP g (first++[Value.string r]++cap).toArray u λv u'=>Ao (p r) v/\AC u u'):
  Sp PP 136 #[.slice a n c,.func (.func g) first.toArray cap.toArray] w λv w'=>((∃k:Nat,v=.int .i64 (k:Int)/\∃y∈l,p y)\/(v=.int .i64 (-1)/\∀y∈l,¬p y))/\AC w w':=by
 obtain rfl:=h.len;refine eN ?_;refine cN 9 [4,5] 8 l.length (λk u=>(∀y∈l.take k,¬p y)/\AC w u) ⟨by simp,stp⟩ ?_;rintro k F u G ⟨b,e⟩;refine ite (λAY=>?_) (λA=>?_)
 ·have f:k<l.length:=by omega
  refine Bv (h.up (w':=u)) (x:=l[k]) (by simp) λH I C=>AF (C.cell0 rfl) (AA (z l[k] u (Qa _) e.e) ?_);rintro _ J ⟨⟨rfl,o⟩|⟨rfl,o⟩,K⟩
  ·exact⟨.inl ⟨k,rfl,l[k],Qa _,o⟩,stp⟩
  ·refine rA ⟨rfl,f,λt d=>?_,stp⟩;rw[Cs f]at d;rcases Qf.1 d with d|d
   ·exact b t d
   ·rw[Qc.1 d];exact o
 ·obtain rfl:k=l.length:=by omega
  rw[Qj (Qe _)]at b;exact⟨.inr ⟨rfl,b⟩,stp⟩
theorem qG{c:Nat}{l:List ByteArray}{g:FuncId}{first cap:List Value}{p:ByteArray->Prop}(h:AQ w (.slice a n c) l)(e:l.length<=1000000)
  (o:∀r u,r∈l->Bp w u->Sp PP g (first++[Value.string r]++cap).toArray u λv u'=>Ao (p r) v/\AC u u'):
  Sp PP 76 #[.slice a n c,.func (.func g) first.toArray cap.toArray] w λv w'=>Ao (∃y∈l,p y) v/\AC w w':=by
 refine eN ?_;refine AA (zFi h e o) ?_;rintro _ A ⟨⟨k,rfl,d⟩|⟨rfl,d⟩,C⟩
 ·refine ite (λb=>⟨.t d,stp⟩) (λb=>absurd b (by omega))
 ·refine ite (λb=>absurd b (by omega)) (λb=>⟨.f (λ⟨y,x,z⟩=>d y x z),stp⟩)
theorem UZ{p:Nat->Prop}(h:∀j,j<k->¬p j)(d:¬p k):∀j,j<k+1->¬p j:=λj e=>by
 have b:=QH j k;rcases b with c|c
 ·exact h j c
 ·have b:j=k:=by omega
  obtain rfl:=b;exact d
theorem zDu{c:Nat}{l:List SV}{g:FuncId}{p:Nat->Prop}(h:AQ w (.slice a n c) l)(L:l.length<=1000000)
  (C:∀i (hi:i<l.length) u,Bp w u->Sp PP g #[l[i].v] u λv u'=>Ao (p i) v/\AC u u'):
  Sp PP 158 #[.slice a n c,.func (.func g) #[] #[]] w λv w'=>Ao (∃i,i<l.length/\p i) v/\AC w w':=by
 have E:Sp PP 219 #[.slice a n c,.func (.func g) #[] #[]] w λv w'=>((∃k:Nat,v=.int .i64 (k:Int)/\k<l.length/\p k)\/(v=.int .i64 (-1)/\∀i,i<l.length->¬p i))/\AC w w':=by
  have z:=h.len;obtain rfl:=z;refine eN ?_;refine cN 9 [4,5] 8 l.length (λk u=>(∀i,i<k->¬p i)/\AC w u) ⟨(λi hi=>by omega),stp⟩ ?_;rintro k M u A ⟨b,e⟩;refine ite (λAY=>?_) (λF=>?_)
  ·have d:k<l.length:=by omega
   refine Bv (h.up (w':=u)) (x:=l[k]) (by simp) λO Q G=>AF (G.cell0 rfl) (AA (C k d u e.e) ?_);rintro _ H ⟨⟨rfl,o⟩|⟨rfl,o⟩,I⟩
   ·exact⟨.inl ⟨k,rfl,d,o⟩,stp⟩
   ·exact rA ⟨rfl,d,UZ b o,stp⟩
  ·have z:k=l.length:=by omega
   obtain rfl:=z;exact⟨.inr ⟨rfl,b⟩,stp⟩
 refine eN ?_;refine AA E ?_;rintro _ H ⟨⟨k,rfl,A,o⟩|⟨rfl,o⟩,I⟩
 ·refine ite (λr=>⟨.t ⟨k,A,o⟩,stp⟩) (λr=>absurd r (by omega))
 ·refine ite (λr=>absurd r (by omega)) (λr=>⟨.f (λ⟨y,J,K⟩=>o y J K),stp⟩)
abbrev IP (f:FuncId):Value:=.agg #[.func (.func f) #[] #[]]
theorem WX:Sp PP 74 #[] w λv w'=>v=IP 135/\AC w w':=by
 refine eN ?_;refine Ap λb w1 n1 f=>AJ (cs:=[.func (.func 135) #[] #[]]) rfl (rS f [.func (.func 135) #[] #[]] (by intro u c;simp at c;subst c;rfl) λd e h _=>?_);have l:AC w d:=n1.st h;have e:Bk d b [.func (.func 135) #[] #[]] 120:=e;exact AR rfl ⟨rfl,stp⟩
theorem lD:Sp PP 72 #[] w λv w'=>v=IP 129/\AC w w':=by
 refine eN ?_;refine Ap λb w1 n1 f=>AJ (cs:=[.func (.func 129) #[] #[]]) rfl (rS f [.func (.func 129) #[] #[]] (by intro u c;simp at c;subst c;rfl) λd e h _=>?_);have l:AC w d:=n1.st h;have e:Bk d b [.func (.func 129) #[] #[]] 116:=e;exact AR rfl ⟨rfl,stp⟩
def YR (a b:BP):Int:=Mv [Bl a.f b.f,Bl a.t b.t]
theorem dN(a b:BP):YR a b<0↔Dl a b:=by
 unfold YR Dl;rw[LP,LP];have:=or_nil;constructor
 ·rintro(h|⟨h,c|⟨_,d⟩⟩)
  ·exact .inl (by omega)
  ·exact .inr ⟨by omega,by omega⟩
  ·exact absurd d this
 ·rintro(h|⟨h,c⟩)
  ·exact .inl (by omega)
  ·exact .inr ⟨by omega,.inl (by omega)⟩
theorem sQ{a b:BP}:Sp PP 129 #[agg a,agg b] w λv w'=>v=.int .i64 (YR a b)/\Gw w w':=by
 refine eN ?_;refine BM λp w1 n1 c=>BM λbb r n2 d=>HO Aa mixed (λ_=>False) (.one 0 (.one 1 (.one 2 (.one 3 (.one 5 (.one 6 (.one 7 (.one 8 (.one 4 (.one 9 (.one 10 (.one 11 (.one 12 .nil))))))))))))) (by kernel_rfl) λx y l=>?_;refine tX c rfl nf (tX d rfl nf ?_);refine tX c rfl nf (tX d rfl nf ?_);refine AA Ms ?_;rintro v z ⟨rfl,rfl⟩;refine⟨Fr.refl _ _,?_⟩;refine AA Ms ?_;rintro v A ⟨rfl,rfl⟩;refine⟨Fr.refl _ _,?_⟩;refine OZ [Bl a.f b.f,Bl a.t b.t] rfl (vs:=[.int .i64 (Bl a.f b.f),.int .i64 (Bl a.t b.t)]) rfl rfl (by decide) λC E h o=>⟨h.e,?_⟩;refine AA (XW o (by simp)) ?_;rintro v F ⟨rfl,rfl⟩;refine⟨Fr.refl _ _,?_⟩;exact⟨rfl,n1.gw.trans (n2.gw.trans (l.trans h.gw))⟩
def U7 {α:Type} (lt:α->α->Prop) (l:List α):Prop:=∀i (h:i+1<l.length),lt l[i] l[i+1]
theorem bZ{α:Type}{lt:α->α->Prop}(c:∀x y z,lt x y->lt y z->lt x z){l:List α}:U7 lt l↔l.Pairwise lt:=by
 constructor
 ·intro h;rw[QX];intro i j hi e b;have f:=Nat.exists_eq_add_of_lt b;obtain⟨d,rfl⟩:=f;clear b
  induction d with
  |zero=>exact h i e
  |succ d o=>exact c _ _ _ (o (by omega)) (h (i+d+1) e)
 ·intro h i hi;exact QX.1 h i (i+1) (by omega) hi (by omega)
theorem My(x y z:BP)(h:Dl x y)(k:Dl y z):Dl x z:=by unfold Dl at *;omega
theorem Nk(x y z:ByteArray)(h:Ct x y)(k:Ct y z):Ct x z:=List.lt_trans h k
theorem xB{c:Nat}{l:List ByteArray}(h:AQ w (.slice a n c) l)(J:l.length<=1000000):
  Sp PP 156 #[.slice a n c,IP 135] w λv w'=>Ao (l.Pairwise Ct) v/\AC w w':=by
 have d:=h.len;obtain rfl:=d;refine eN ?_;refine BM λbo w1 n1 y=>?_
 refine GV Aa 6 [4] 5 (λv u=>∃k:Nat,v=.int .i64 ((k:Int)+1)/\(k=0\/k+1<=l.length)/\(∀i (h:i+1<l.length),i<k->Ct l[i] l[i+1])/\AC w1 u) (λv _=>l.length+1 - (Go.RowKit.intOf v).toNat) rfl
  ⟨0,rfl,.inl rfl,λi _ hi=>by omega,stp⟩ ?_
 rintro v g u ⟨k,rfl,K,b,e⟩;refine ite (λAY=>?_) (λz=>⟨.t ((bZ Nk).1 λi hi=>b i hi (by omega)),stp⟩);have o:k+1<l.length:=by omega
 refine dQ 13 λA L=>tX y rfl nf (rF k ?_);have p:=h.up (w':=A);refine CL p (x:=l[k]) (by simp) λM O C _=>AP (C.cell0 rfl) nf (CL (i:=k+1) p (x:=l[k+1]) (by simp) λQ S E _=>AP (E.cell0 rfl) nf (AA mB ?_));rintro v U ⟨rfl,rfl⟩;refine⟨Fr.refl _ _,?_⟩;refine ite (λF=>⟨.f λG=>?_,stp⟩) (λF=>?_)
 ·have:=(bZ Nk).2 G k o;have:=(dL _ _).2 this;omega
 ·have H:Ct l[k] l[k+1]:=(dL _ _).1 (by omega);refine rA ⟨⟨k+1,rfl,.inr (by omega),λi hi I=>?_,stp⟩,?_⟩
  ·have d:=QH i k;rcases d with r|r
   ·exact b i hi r
   ·have d:i=k:=by omega
    obtain rfl:=d;exact H
  ·show l.length+1 - (((k:Int)+1+1)).toNat<l.length+1 - (((k:Int)+1)).toNat;omega
theorem zFG{c:Nat}{l:List BP}(h:AQ w (.slice a n c) l)(L:l.length<=1000000):
  Sp PP 157 #[.slice a n c,IP 129] w λv w'=>Ao (l.Pairwise Dl) v/\AC w w':=by
 have d:=h.len;obtain rfl:=d;refine eN ?_;refine BM λbo w1 n1 A=>?_
 refine GV Aa 6 [4] 5 (λv u=>∃k:Nat,v=.int .i64 ((k:Int)+1)/\(k=0\/k+1<=l.length)/\(∀i (h:i+1<l.length),i<k->Dl l[i] l[i+1])/\AC w1 u) (λv _=>l.length+1 - (Go.RowKit.intOf v).toNat) rfl
  ⟨0,rfl,.inl rfl,λi _ hi=>by omega,stp⟩ ?_
 rintro v g u ⟨k,rfl,M,b,e⟩;refine ite (λAY=>?_) (λC=>⟨.t ((bZ My).1 λi hi=>b i hi (by omega)),stp⟩);have o:k+1<l.length:=by omega
 refine dQ 13 λp O=>tX A rfl nf (rF k ?_);have r:=h.up (w':=p);refine CL r (x:=l[k]) (by simp) λQ S E _=>Ch E rfl nf (CL (i:=k+1) r (x:=l[k+1]) (by simp) λU V F _=>Ch F rfl nf (AA sQ ?_));rintro v G ⟨rfl,y⟩;have W:AC p G:=⟨y.ext⟩;refine⟨y.ext,?_⟩;refine ite (λH=>⟨.f λI=>?_,stp⟩) (λH=>?_)
 ·have:=(bZ My).2 I k o;have:=(dN _ _).2 this;omega
 ·have J:Dl l[k] l[k+1]:=(dN _ _).1 (by omega);refine rA ⟨⟨k+1,rfl,.inr (by omega),λi hi K=>?_,stp⟩,?_⟩
  ·have d:=QH i k;rcases d with z|z
   ·exact b i hi z
   ·have d:i=k:=by omega
    obtain rfl:=d;exact J
  ·show l.length+1 - (((k:Int)+1+1)).toNat<l.length+1 - (((k:Int)+1)).toNat;omega
structure DK (g:An):Prop where
 n1:1<=g.n
 n2:g.n<=200
 ne:g.es.length<=2000
 nw:g.ws.length=g.n
 ed:∀e∈g.es,e.f<g.n/\e.t<g.n
 word:∀l∈g.ws,l.length<=8/\∀s∈l,Fv s
theorem Bb.chk(h:Bb g):DK g:=⟨h.ok.n1,h.ok.n2,h.ne,h.nw,h.ok.ed,h.word⟩
theorem uE:Bb g↔DK g/\g.es.Pairwise Dl/\∀l∈g.ws,l.Pairwise Ct:=
 ⟨λh=>⟨h.chk,h.er,h.wr⟩,λ⟨h,b,c⟩=>⟨⟨h.n1,h.n2,h.ed⟩,h.ne,h.nw,h.word,b,c⟩⟩
theorem sH{x:FY}{v:Int}:Sp PP 75 #[agg x,.int .i64 v] w λr w'=>Ao (0<=v/\v<x.n) r/\AC w w':=by
 refine eN ?_;refine BM λb w1 n1 e=>ite (λc=>?_) (λc=>⟨.f (λh=>c h.1),stp⟩);refine rX e rfl ?_;exact ite (λd=>⟨.t ⟨c,d⟩,stp⟩) (λd=>⟨.f (λh=>d h.2),stp⟩)
theorem eE{x:FY}{vs:List SV}(V:Kt w x g vs):Sp PP 45 #[agg x] w λv w'=>Ao (DK g) v/\AC w w':=by
 have hn:=V.n;have M:=V.es.len;have O:=V.ws.len;have Q:=V.rows.1;have A:=V.small;obtain⟨S,U,W⟩:=A;refine eN ?_;refine BM λb w1 n1 C=>rX C rfl (ite (λX=>⟨.f (λh=>by have:=h.n1;omega),stp⟩) (λX=>?_));refine rX C rfl (ite (λY=>⟨.f (λh=>by have:=h.n2;omega),stp⟩) (λY=>?_));refine rX C rfl (ite (λZ=>⟨.f (λh=>by have:=h.ne;omega),stp⟩) (λZ=>?_));refine rX C rfl (rX C rfl (ite (λh4=>⟨.f (λh=>by have:=h.nw;omega),stp⟩) (λh4=>?_)));refine rX C rfl (cN 32 [2,4] 32 g.es.length (λk u=>(∀e∈g.es.take k,e.f<g.n/\e.t<g.n)/\AC w1 u) ⟨by simp,stp⟩ ?_);rintro k gf u hk ⟨o,e⟩;refine ite (λAY=>?_) (λG=>?_)
 ·have z:k<g.es.length:=by omega
  have no:¬(g.es[k].f<g.n/\g.es[k].t<g.n)->¬DK g:=λh H=>h (H.ed _ (Qa _));refine Bv (V.es.up (w':=u)) (x:=g.es[k]) (by simp) λb2 o2 I=>Ai I rfl (Ap λb3 w3 n3 z3=>rE z3 (g.es[k]) λL F f4 _=>?_);have s4:AC u L:=n3.st f4;have F:Bk L b3 (enc g.es[k]) 74:=F;refine rG C x (rX F rfl (AA (sH (x:=x)) ?_));rintro _ w5 ⟨⟨rfl,h5⟩|⟨rfl,h5⟩,e5⟩
  case' inr=>exact⟨.f (no (by omega)),stp⟩
  refine rG C x (rX F rfl (AA (sH (x:=x)) ?_));rintro _ w6 ⟨⟨rfl,h6⟩|⟨rfl,h6⟩,e6⟩
  case' inr=>exact⟨.f (no (by omega)),stp⟩
  refine rA ⟨rfl,z,λt d=>?_,stp⟩;rw[Cs z]at d;have A:=Qf.1 d;rcases A with d|d
  ·exact o t d
  ·rw[Qc.1 d];omega
 have A:k=g.es.length:=by omega
 obtain rfl:=A;rw[Qg]at o;refine rX C rfl (cN 52 [2,6] 52 vs.length (λk u'=>(∀l∈g.ws.take k,l.length<=8/\∀s∈l,Fv s)/\AC u u') ⟨by simp,stp⟩ ?_);rintro k gf u' hk ⟨c,e'⟩;refine ite (λAY=>?_) (λG=>?_)
 ·have z:k<vs.length:=by omega
  have E:k<g.ws.length:=by omega
  have no:¬(g.ws[k].length<=8/\∀s∈g.ws[k],Fv s)->¬DK g:=λh H=>h (H.word _ (Qa _));refine Bv (V.ws.up (w':=u')) (x:=vs[k]) (by simp) λb2 o2 I=>AF (I.cell0 rfl) ?_;have R:=(V.rows.up (w':=u')).2 k z E;have hl:=R.len;refine ite (λh7=>⟨.f (no (by omega)),stp⟩) (λh7=>?_);refine AA (qG (first:=[]) (cap:=[]) (p:=λs=>¬Fv s) R (by omega) (λr u1 hr _=>zG0 (V.words _ (Qa _) r hr))) ?_;rintro _ w5 ⟨⟨rfl,J⟩|⟨rfl,J⟩,e5⟩
  ·exact⟨.f (no λ⟨_,h⟩=>by obtain⟨y,hy,K⟩:=J;exact K (h y hy)),stp⟩
  ·refine rA ⟨rfl,z,λt d=>?_,stp⟩;rw[Cs E]at d;have A:=Qf.1 d;rcases A with d|d
   ·exact c t d
   ·rw[Qc.1 d];exact⟨by omega,λs hs=>Q2.1 λh=>J ⟨s,hs,h⟩⟩
 ·have A:k=vs.length:=by omega
  obtain rfl:=A;rw[Qj (by omega)]at c;exact⟨.t ⟨by omega,by omega,by omega,by omega,o,c⟩,stp⟩
theorem zJN{c:Nat}{l:List ByteArray}(h:AQ w (.slice a n c) l)(d:l.length<=1000000):
  Sp PP 155 #[.slice a n c] w λv w'=>Ao (¬l.Pairwise Ct) v/\AC w w':=by
 refine eN ?_;refine AA WX ?_;rintro _ w1 ⟨rfl,e⟩;refine AA (xB (h.up (w':=w1)) d) ?_;rintro _ o ⟨⟨rfl,b⟩|⟨rfl,b⟩,p⟩
 ·exact⟨.f (λh=>h b),stp⟩
 ·exact⟨.t b,stp⟩
theorem dP{x:FY}{vs:List SV}(V:Kt w x g vs):Sp PP 99 #[agg x] w λv w'=>Ao (Bb g) v/\AC w w':=by
 refine eN ?_;refine BM λb w1 n1 r=>dQ 16 λH Y=>tG r x nf (AA (eE (V.up (w':=H))) ?_);rintro _ Z ⟨⟨rfl,c⟩|⟨rfl,c⟩,C⟩
 case' inr=>exact⟨C.e,⟨.f (λh=>c h.chk),stp⟩⟩
 refine⟨C.e,?_⟩;refine tX r rfl nf (AA lD ?_);rintro _ I ⟨rfl,J⟩;refine⟨J.e,?_⟩;refine AA (zFG (V.es.up (w':=I)) V.small.1) ?_;rintro _ E ⟨⟨rfl,h5⟩|⟨rfl,h5⟩,F⟩
 case' inr=>exact⟨F.e,⟨.f (λh=>h5 h.er),stp⟩⟩
 refine⟨F.e,?_⟩;refine tX r rfl nf ?_;have y:=V.rows.up (w':=E);refine AA (zDu (p:=λi=>∃K:i<g.ws.length,¬(g.ws[i]).Pairwise Ct) (V.ws.up (w':=E)) V.small.2.1 (λi hi M L=>?_)) ?_
 ·have d:i<g.ws.length:=by rw[<-y.1];exact hi
  have O:AQ M vs[i].v g.ws[i]:=(y.2 i hi d).ext L
  exact(zJN (l:=g.ws[i]) O (V.small.2.2 _ (Qa _))).mono λv u2 ⟨o,Q⟩=>⟨by
   rcases o with⟨rfl,o⟩|⟨rfl,o⟩
   ·exact .t ⟨d,o⟩
   ·exact .f λ⟨_,S⟩=>o S,Q⟩
 rintro _ w6 ⟨⟨rfl,z⟩|⟨rfl,z⟩,G⟩
 ·refine⟨G.e,.f (λh=>?_),stp⟩;obtain⟨i,_,K,c⟩:=z;exact c (h.wr _ (Qa _))
 ·refine⟨G.e,.t (uE.2 ⟨c,h5,?_⟩),stp⟩;intro l U;have W:=QI.1 U;obtain⟨i,hi,rfl⟩:=W;have A:i<vs.length:=by have:=y.1;omega
  exact Q2.1 λX=>z ⟨i,A,hi,X⟩
section
variable {P:Program} {k:KW} {pn:PW} {w:World} {t:TypeId} {x y:Operand} {a b:ByteArray}
end
abbrev Hy:List PanicEntry:=[{ v:=.iface 24 (.int .i64 30),recovered:=false }]
abbrev Lz (w:World) (b:Nat) (s:U8) (A:Nat):Prop:=Bk w b [Ag s,.int .i64 (A:Int)] 218
instance:Ik PP 24:={}
theorem zG4{A b:Nat}{x:Value}{c:Nat}(B:Lz w b s A):Sp PP 213 #[.pointer (some ⟨b,0,none⟩),x,.int .i64 (c:Int),.bool true] w λv w'=>v=x/\Lz w' b s c/\Fr (λi=>i=b) w w':=by
 refine eN ?_;exact rS B [.int .i64 (c:Int)] (HT _) λw1 d e _=>⟨rfl,d,e⟩
theorem zG3{p x:Value}{a:Int}:El PP 213 #[p,x,.int .i64 a,.bool false] w (λ_ _=>False) (λc w'=>c=Hy/\w'=w):=by
 refine HB Aa rfl ?_;exact Hm (FG ⟨rfl,rfl⟩)
theorem zGm{A b:Nat}{x:Value}{c:Nat}(B:Lz w b s A):Sp PP 215 #[.pointer (some ⟨b,0,none⟩),x,.int .i64 (c:Int),.bool true] w λv w'=>v=x/\Lz w' b s c/\Fr (λi=>i=b) w w':=by
 refine eN ?_;exact rS B [.int .i64 (c:Int)] (HT _) λw1 d e _=>⟨rfl,d,e⟩
theorem zGl{p x:Value}{a:Int}:El PP 215 #[p,x,.int .i64 a,.bool false] w (λ_ _=>False) (λc w'=>c=Hy/\w'=w):=by
 refine HB Aa rfl ?_;exact Hm (FG ⟨rfl,rfl⟩)
theorem zFo{A b:Nat}{x:Value}{c:Nat}(B:Lz w b s A):Sp PP 217 #[.pointer (some ⟨b,0,none⟩),x,.int .i64 (c:Int),.bool true] w λv w'=>v=x/\Lz w' b s c/\Fr (λi=>i=b) w w':=by
 refine eN ?_;exact rS B [.int .i64 (c:Int)] (HT _) λw1 d e _=>⟨rfl,d,e⟩
theorem zFn{p x:Value}{a:Int}:El PP 217 #[p,x,.int .i64 a,.bool false] w (λ_ _=>False) (λc w'=>c=Hy/\w'=w):=by
 refine HB Aa rfl ?_;exact Hm (FG ⟨rfl,rfl⟩)
theorem gY{A b:Nat}(B:Lz w b s A)(r:s.length<=4611686018427387904):
  El PP 148 #[.pointer (some ⟨b,0,none⟩)] w (λv w'=>∃n d:Nat,Fq EH s A n d/\v=.int .i64 (n:Int)/\Lz w' b s d/\Fr (λi=>i=b) w w')
   (λc w'=>c=Hy/\EH (s.drop A)=none/\Fr (λi=>i=b) w w'):=by
 refine HB Aa rfl ?_;refine dQ 16 λw1 z=>tX B rfl nf (tX B rfl nf ?_);refine AA (sP (A:=A) r) ?_;rintro _ l ⟨⟨n,d,t,rfl⟩|⟨f,rfl⟩,o⟩
 ·refine⟨o.e,?_⟩;refine AA (zG4 (B.mv (w:=l))) ?_;rintro _ p ⟨rfl,x,y⟩;exact⟨n,d,t,rfl,x,(fE w l).trans y⟩
 ·refine⟨o.e,?_⟩;refine AO zG3 (λ_ _ h=>h.elim) ?_;rintro _ p ⟨rfl,rfl⟩;exact⟨rfl,f,fE w p⟩
theorem zFp{A b:Nat}(B:Lz w b s A)(y:s.length<=4611686018427387904):
  El PP 149 #[.pointer (some ⟨b,0,none⟩)] w (λv w'=>∃(l:List Nat) (d:Nat),Fq DO s A l d/\AD w.heap.size 3 w' v (AH l)/\Lz w' b s d/\Fr (λi=>i=b) w w')
   (λc w'=>c=Hy/\DO (s.drop A)=none/\Fr (λi=>i=b) w w'):=by
 refine HB Aa rfl ?_;refine dQ 16 λw1 E=>tX B rfl nf (tX B rfl nf ?_);refine AA (zFr (A:=A) y) ?_;rintro _ o ⟨⟨l,d,F,z,rfl,O⟩|⟨f,rfl⟩,p⟩
 ·refine⟨p.e,?_⟩;have r:=B.mv (w:=o);refine AA (zGm r) ?_;rintro _ t ⟨rfl,C,x⟩;exact⟨l,d,z,(O.frc x r).mono (lz w w1),C,(fE w o).trans x⟩
 ·refine⟨p.e,?_⟩;refine AO zGl (λ_ _ h=>h.elim) ?_;rintro _ t ⟨rfl,rfl⟩;exact⟨rfl,f,fE w t⟩
theorem y6{A b:Nat}(B:Lz w b s A)(r:s.length<=4611686018427387904):
  El PP 151 #[.pointer (some ⟨b,0,none⟩)] w (λv w'=>∃(x:U8) (d:Nat),Fq GT s A x d/\v=Ag x/\Lz w' b s d/\Fr (λi=>i=b) w w')
   (λc w'=>c=Hy/\GT (s.drop A)=none/\Fr (λi=>i=b) w w'):=by
 refine HB Aa rfl ?_;refine dQ 16 λw1 C=>tX B rfl nf (tX B rfl nf ?_);refine AA (mU (A:=A) r) ?_;rintro _ l ⟨⟨x,d,t,rfl⟩|⟨f,rfl⟩,o⟩
 ·refine⟨o.e,?_⟩;refine AA (zFo (B.mv (w:=l))) ?_;rintro _ p ⟨rfl,y,z⟩;exact⟨x,d,t,rfl,y,(fE w l).trans z⟩
 ·refine⟨o.e,?_⟩;refine AO zFn (λ_ _ h=>h.elim) ?_;rintro _ p ⟨rfl,rfl⟩;exact⟨rfl,f,fE w p⟩
theorem jY{A b:Nat}(B:Lz w b s A)(L:A<=s.length)(M:s.length<=4611686018427387904):
  El PP 150 #[.pointer (some ⟨b,0,none⟩),.int .i64 (n:Int),.int .i64 8,.func (.func 151) #[] #[]] w
   (λv w'=>∃(l:List (U8)) (f:Nat),n<=8/\Fq (Ae GT n) s A l f/\AD w.heap.size 9 w' v (l.map AS)/\Lz w' b s f/\Fr (λi=>i=b) w w')
   (λc w'=>c=Hy/\(n<=8->Ae GT n (s.drop A)=none)/\Fr (λi=>i=b) w w'):=by
 refine HB Aa rfl ?_;refine ite (λh=>?_) (λh=>?_)
 ·exact Hm (FG ⟨rfl,λQ=>by omega,Fr.refl _ _⟩)
 refine cO 15 [] 9 15 n (λk v u=>Fr (λi=>i=b) w u/\∃d f,d.length=k/\f<=s.length/\AD w.heap.size 9 u v (d.map AS)/\Lz u b s f/\Gt d (Ae GT (n - k) (s.drop f))=Ae GT n (s.drop A))
  ⟨Fr.refl _ _,[],A,rfl,L,AD.nil _ _ _,B,by rw[dR,JF]⟩ ?_
 rintro k v g u hk ⟨r,d,f,S,y,O,z,C⟩;refine ite (λAY=>?_) (λU=>?_)
 ·have o:n - k=(n - (k+1))+1:=by omega
  refine AO (y6 z M) ?_ ?_
  ·rintro _ V ⟨x,W,H,rfl,X,p⟩;have I:=O.frc p z;refine bS (AS x) λb4 t J _ Y=>?_;have E:w.heap.size<=t.heap.size:=by have h1:=r.size;have Q:=p.size;have h3:=J.e.size;omega
   refine FR ⟨rfl,rfl⟩ (I.up (w':=t)) Y E (by simp;omega) λZ u5 O5 K=>?_;have B5:=(X.mv (w:=t)).fro (I.up (w':=t)) K;have F:AD w.heap.size 9 u5 Z ((d++[x]).map AS):=by rw[QB];exact O5
   refine rA ⟨rfl,by omega,Fr.new ((r.trans p).trans (Fr.fr J.e)) K (λi hi=>hi.1),d++[x],W,by simp[S],H.1,F,B5,?_⟩;rw[<-C,o,TM H.2]
  ·rintro _ V ⟨rfl,G,p⟩;refine⟨rfl,λ_=>?_,r.trans p⟩;rw[<-C,o,Zq G];rfl
 ·have q_:k=n:=by omega
  obtain rfl:=q_;refine⟨d,f,by omega,⟨y,?_⟩,O,z,r⟩;rw[<-C,JN];simp[Ae,Gt]
section
variable {P:Program} {k:KW} {pn:PW} {w:World}
theorem Hh{t:TypeId}[b:LT P t]{s:ByteArray}{y:Value}(c:y=.int .i64 hi)(f:hi<=s.size)(d:k (.string (s.extract 0 hi)) w):AI P (Instr.sliceAt t (.string s) none (some y) none) k pn w:=by
 subst c;have e:(0:Int)<=(hi:Int)/\(hi:Int)<=(s.size:Int):=by omega
 refine AI.of (w':=w) ?_ d;unfold Instr.sliceAt;simp only[Qo,Om b.h,Qh];unfold Instr.slice;simp[Qo,Om b.h,Qh,Instr.sliceBounds,Instr.sliceBound,asIntOf,e];exact λh=>absurd h (by omega)
theorem Ks{t:TypeId}[b:LT P t]{s:ByteArray}{lo:Nat}{y:Value}(c:y=.int .i64 lo)(f:lo<=s.size)(d:k (.string (s.extract lo s.size)) w):AI P (Instr.sliceAt t (.string s) (some y) none none) k pn w:=by
 subst c;have e:(0:Int)<=(lo:Int)/\(lo:Int)<=(s.size:Int):=by omega
 refine AI.of (w':=w) ?_ d;unfold Instr.sliceAt;simp only[Qo,Om b.h,Qh];unfold Instr.slice;simp[Qo,Om b.h,Qh,Instr.sliceBounds,Instr.sliceBound,asIntOf,e];exact λh=>absurd h (by omega)
end
abbrev Mc:FY:=⟨0,⟨none,0,0⟩,⟨none,0,0⟩⟩
theorem zES{p:U8}:Sp PP 275 #[Ag s,Ag p] w λv w'=>Ao (p <+: s) v/\w'=w:=by
 have e:=AM s;have b:=AM p;refine eN ?_;refine ite (λc=>?_) (λc=>⟨.f (λh=>?_),rfl⟩)
 ·refine Hh (hi:=(⟨p.toArray⟩:ByteArray).size) rfl (by omega) ?_;refine DL (λh=>⟨.t ?_,rfl⟩) (λh=>⟨.f (λd=>h ?_),rfl⟩)
  ·rw[Na,b]at h;have:=ST h;rw[Jf,JF]at this;rw[<-this];exact List.take_prefix _ _
  ·obtain⟨t,rfl⟩:=d;rw[Na,b];simp
 ·have:=h.length_le;omega
theorem fF{p:U8}:Sp PP 125 #[Ag s,Ag p] w λv w'=>((p <+: s/\v=.tuple #[Ag (s.drop p.length),.bool true])\/(¬p <+: s/\v=.tuple #[Ag s,.bool false]))/\w'=w:=by
 have d:=AM s;have f:=AM p
 have h:Sp PP 199 #[Ag s,Ag p] w λv w'=>((p <+: s/\v=.tuple #[Ag (s.drop p.length),.bool true])\/(¬p <+: s/\v=.tuple #[Ag s,.bool false]))/\w'=w:=by
  refine eN ?_;refine AA zES ?_;rintro _ _ ⟨⟨rfl,c⟩|⟨rfl,c⟩,rfl⟩
  ·have l:=c.length_le
   have e:(⟨s.toArray⟩:ByteArray).extract (⟨p.toArray⟩:ByteArray).size (⟨s.toArray⟩:ByteArray).size=⟨(s.drop p.length).toArray⟩:=by
    rw[f,d,Na,<-QR,Qg]
   refine Ks (lo:=(⟨p.toArray⟩:ByteArray).size) rfl (by omega) ?_;exact⟨.inl ⟨c,congrArg (λb=>Value.tuple #[.string b,.bool true]) e⟩,rfl⟩
  ·exact⟨.inr ⟨c,rfl⟩,rfl⟩
 refine eN ?_;refine AA h ?_;rintro _ _ ⟨⟨c,rfl⟩|⟨c,rfl⟩,rfl⟩
 ·exact⟨.inl ⟨c,rfl⟩,rfl⟩
 ·exact⟨.inr ⟨c,rfl⟩,rfl⟩
theorem oX{bx be:Nat}:Lm PP 147 #[.pointer (some ⟨bx,0,none⟩),.pointer (some ⟨be,0,none⟩)] .returning w λu' w'=>u'=.returning/\w'=w:=by
 refine Lm.enter Aa rfl rfl rfl rfl rfl rfl rfl (λ_ _=>rfl) rfl rfl ?_;refine Sx ?_;exact⟨rfl,rfl,rfl⟩
theorem vS{bx be:Nat}{x:FY}{e:Int}(f:Bk w bx (enc x) 35)(l:Bk w be [.int .i64 e] 24)(b:¬be=bx):
  Lm PP 147 #[.pointer (some ⟨bx,0,none⟩),.pointer (some ⟨be,0,none⟩)] (.panicking Hy) w λu' w'=>settle u'=.returning/\Bk w' bx (enc Mc) 35/\Bk w' be [.int .i64 30] 24/\Fr (λi=>i=bx\/i=be) w w':=by
 refine Lm.enter Aa rfl rfl rfl rfl rfl rfl rfl (λ_ _=>rfl) rfl rfl ?_;refine Tu (AJ (cs:=enc Mc) rfl (rE f Mc λr o c _=>rS (l.fr c b) [.int .i64 30] (HT _) λt p d _=>?_));exact⟨rfl,rfl,o.fr d (λh=>b h.symm),p,(c.mono λi _ hi=>.inl hi).trans (d.mono λi _ hi=>.inr hi)⟩
theorem jR{α:Type}{f:U8->Option (α×U8)}{P:α->Prop}(h:∀r x t,f r=some (x,t)->P x):∀(n:Nat) (r:U8) (l:List α) (t:U8),Ae f n r=some (l,t)->l.length=n/\∀x∈l,P x
 |0,r,l,t,e=>by simp[Ae]at e;obtain⟨rfl,_⟩:=e;simp
 |n+1,r,l,t,e=>by
  unfold Ae at e
  cases b:f r with
  |none=>rw[b]at e;cases e
  |some p =>
   obtain⟨x,v⟩:=p;rw[b]at e;dsimp only at e
   cases c:Ae f n v with
   |none=>rw[c]at e;cases e
   |some q =>
    obtain⟨z,E⟩:=q;rw[c]at e;simp only[JK,Xm]at e;obtain⟨rfl,rfl⟩:=e;have d:=jR h n v z _ c;obtain⟨A,C⟩:=d;refine⟨by simp[A],λy o=>?_⟩;have d:=Ql.1 o;rcases d with rfl|o
    ·exact h _ _ _ b
    ·exact C y o
theorem zOj{r t:U8}{x:U8}(h:GT r=some (x,t)):x.length<=4000:=by
 unfold GT at h;split at h
 ·split at h
  ·rename_i b;cases h;rw[Qm];omega
  ·cases h
 ·cases h
theorem vL{r t:U8}{l:List Nat}(h:DO r=some (l,t)):l.length<=4000:=by
 unfold DO at h;split at h
 ·split at h
  ·have:=(jR (P:=λ_=>True) (λ_ _ _ _=>trivial) _ _ _ _ h).1;omega
  ·cases h
 ·cases h
theorem kD{r t:U8}{l:List (U8)}(h:EM r=some (l,t)):l.length<=8/\∀x∈l,x.length<=4000:=by
 unfold EM at h;split at h
 ·split at h
  ·have:=jR (P:=λx:U8=>x.length<=4000) (λ_ _ _ h=>zOj h) _ _ _ _ h;exact⟨by omega,this.2⟩
  ·cases h
 ·cases h
abbrev Zp (p:List Nat×List (U8)):Prop:=p.1.length<=4000/\p.2.length<=8/\∀x∈p.2,x.length<=4000
theorem aY{r t:U8}{p:List Nat×List (U8)}(h:GQ r=some (p,t)):Zp p:=by
 unfold GQ at h;split at h
 ·rename_i l d c;split at h
  ·rename_i e u b;cases h;exact⟨vL c,(kD b).1,(kD b).2⟩
  ·cases h
 ·cases h
theorem fQ:∀(b:List (List Nat)) (v:Nat),(∀l∈b,l.length<=4000)->(BE v b).length<=b.length*4000
 |[],_,_=>by simp[BE]
 |l::b,v,h=>by
  have d:=h l Qs;have e:=fQ b (v+1) λl c=>h l (QF _ c);rw[BE,Qb,Qr,QA];omega
def Bn (B:Nat) (w:World) (vs:List SV) (ls:List (List ByteArray)):Prop:=vs.length=ls.length/\∀i (h:i<vs.length) (h':i<ls.length),AD B 9 w vs[i].v ls[i]
theorem Bn.v{vs:List SV}{b:List (List ByteArray)}(h:Bn B w vs b):Me w vs b:=⟨h.1,λi c d=>(h.2 i c d).sl⟩
theorem Bn.up[Le w w']{vs:List SV}{b:List (List ByteArray)}(h:Bn B w vs b):Bn B w' vs b:=⟨h.1,λi c d=>(h.2 i c d).up⟩
theorem Bn.frc{d:TypeId}{vs:List SV}{e:List (List ByteArray)}{b:Nat}{cs:List Value}(h:Bn B w vs e)(f:Fr (λi=>i=b) w w')(k:Bk w b cs d)(c:9≠d:=by decide):Bn B w' vs e:=⟨h.1,λi l o=>(h.2 i l o).frc f k c⟩
theorem Bn.fro{c:Type}[AK c]{C:Nat}{d:TypeId}{e:Value}{l':List c}{vs:List SV}{l:List (List ByteArray)}(h:Bn B w vs l)(k:AD C d w e l')(f:Fr (AV C e) w w')(b:9≠d:=by decide):Bn B w' vs l:=⟨h.1,λi o p=>(h.2 i o p).fro k f b⟩
theorem Bn.add{vs:List SV}{b:List (List ByteArray)}(h:Bn B w vs b){v:SV}{l:List ByteArray}(O:AD B 9 w v.v l):Bn B w (vs++[v]) (b++[l]):=by
 refine⟨by simp[h.1],λi c d=>?_⟩;have e:=h.1;rw[VR,VR];by_cases hi:i<vs.length
 ·rw[dif_pos hi,dif_pos (by omega)];exact h.2 i hi (by omega)
 ·rw[dif_neg hi,dif_neg (by omega)];simp only[List.getElem_singleton];exact O
abbrev Am (ps:List (List Nat×List (U8))):List (List Nat):=ps.map λp=>p.1
abbrev Nd (s:U8) (w:World) (v:Value) (w':World):Prop:=
 ((∃g x vs,Ea s=some g/\v=.tuple #[agg x,.int .i64 0]/\Kt w' x g vs)\/(Ea s=none/\v=.tuple #[agg Mc,.int .i64 30]))/\AC w w'
structure PaJ (w:World) (s:U8) (bg be br N:Nat) (u:World) (es:List BP) (A:Nat) (ea:OA) (ec:Nat) (wa:OA) (wc:Nat) (vs:List SV) (ws:List (List ByteArray)):Prop where
 rd:Lz u br s A
 g:Bk u bg [.int .i64 (N:Int),.slice ea es.length ec,.slice wa vs.length wc] 35
 e:Bk u be [.int .i64 0] 24
 es:AD w.heap.size 74 u (.slice ea es.length ec) es
 wo:AD w.heap.size 28 u (.slice wa vs.length wc) vs
 rows:Bn w.heap.size u vs ws
 st:AC w u
abbrev DY (ps:List (List Nat×List (U8))):List (List ByteArray):=ps.map λp=>p.2.map AS
structure gQ (w:World) (s:U8) (bg be br N A1 k:Nat) (u:World) (es:List BP) (ps:List (List Nat×List (U8))) (A:Nat) (ea:OA) (ec:Nat) (wa:OA) (wc:Nat) (vs:List SV):Prop extends PaJ w s bg be br N u es A ea ec wa wc vs (DY ps) where
 len:ps.length=k
 at':A<=s.length
 pre:Gt ps (Ae GQ (N - k) (s.drop A))=Ae GQ N (s.drop A1)
 sm:∀p∈ps,Zp p
section
variable {w:World} {s:U8} {bg be br N:Nat} {u u':World} {es:List BP} {A:Nat} {ea:OA} {ec:Nat} {wa:OA} {wc:Nat} {vs:List SV} {ws:List (List ByteArray)}
theorem PaJ.up[Le u u'][AC u u'](J:PaJ w s bg be br N u es A ea ec wa wc vs ws):PaJ w s bg be br N u' es A ea ec wa wc vs ws:=
 ⟨J.rd.mv,J.g.mv,J.e.mv,J.es.up,J.wo.up,J.rows.up,⟨J.st.e.t (lE u u')⟩⟩
theorem PaJ.read{b:Nat}(J:PaJ w s bg be br N u es A ea ec wa wc vs ws)(f:Fr (λi=>i=br) u u')(R:Lz u' br s b)(c:¬bg=br)(d:¬be=br)(h:w.heap.size<=br):PaJ w s bg be br N u' es b ea ec wa wc vs ws:=
 ⟨R,J.g.fr f c,J.e.fr f d,J.es.frc f J.rd,J.wo.frc f J.rd,J.rows.frc f J.rd,⟨Fr.st J.st.e f λi hi=>hi ▸ h⟩⟩
end
theorem Gs(e:OA)(n m:Nat):∀u∈[Value.slice e n m],u.oneCell'=true:=by intro u b;simp at b;subst b;rfl
theorem Rs{b:List ResultVar}{F:Nat->Value}{e:Value}{c:List PanicEntry}{R:KW}{f:PW}{d:Deferred}{ds:List Deferred}(h0:F 4294967296=e)(hd:FH e=d::ds)
  (h:Cb P b F (d::ds) (.panicking c) R f w):Ho P b R f F c w:=by
 unfold Ho;rw[h0,hd];exact h
theorem zPj{r:U8}(h:DO r=none):GQ r=none:=by unfold GQ;rw[h]
theorem YB{r t:U8}{l:List Nat}(h:DO r=some (l,t))(b:EM t=none):GQ r=none:=by unfold GQ;rw[h];dsimp only;rw[b]
theorem YJ{r t u:U8}{l:List Nat}{b:List (U8)}(h:DO r=some (l,t))(c:EM t=some (b,u)):GQ r=some ((l,b),u):=by unfold GQ;rw[h];dsimp only;rw[c]
theorem qO{r:U8}(h:EH r=none):EM r=none:=by unfold EM;rw[h]
theorem NO{r t:U8}(h:EH r=some (n,t)):EM r=if n<=8 then Ae GT n t else none:=by unfold EM;rw[h]
theorem Pe{r:U8}(h:s=119::103::r):WG s=match EH r with
  |some (n,t)=>if n<=200 then(match Ae GQ n t with|some (ps,u)=>some (n,ps,u)|none=>none) else none
  |none=>none:=by subst h;rfl
theorem LW(h:WG s=none):Ea s=none:=by unfold Ea;rw[h]
theorem zQs(h:¬[119,103] <+: s):WG s=none:=by
 unfold WG;split
 ·rename_i r;exact absurd ⟨r,rfl⟩ h
 ·rfl
theorem zIu{s0:U8}(d0:s0.length<=4611686018427387904):Sp PP 96 #[Ag s0] w (Nd s0 w):=by
 refine eN ?_;refine Ap λS w1 n1 z1=>Ap λbe w2 n2 z2=>?_;have e9:=n1.b;have f0:=n1.s;have f2:=n2.b;have f3:=n2.s;have X2:Bk w2 S (enc Mc) 35:=z1.mv;have E2:Bk w2 be [.int .i64 0] 24:=z2;have f7:=lz w w2;have W:¬be=S:=by omega
 have a5:∀i,i=S->w.heap.size<=i:=by omega
 have pan:∀{G:Nat->Value} {u:World} {x:FY},Bk u S (enc x) 35->Bk u be [.int .i64 0] 24->AC w u->Ea s0=none->ev G (.tmp 2)=.pointer (some ⟨S,0,none⟩)->ev G (.tmp 3)=.pointer (some ⟨be,0,none⟩) ->
   Cb PP Tryz.f96.results.toList G [{ target:=.fn (.func 147) #[.pointer (some ⟨S,0,none⟩),.pointer (some ⟨be,0,none⟩)],args:=#[] }] (.panicking Hy) (Nd s0 w) (λ_ _=>False) u:=by
  intro G u x X E' e I g4 g5;refine T5 (by simp) ⟨(vS X E' W).can,Sc (vS X E' W).calls ?_⟩;intro en u' w' he
  cases en with
  |returned v =>
   obtain⟨h1,X',E',f'⟩:=he;show Cb PP _ _ [] (settle u') _ _ w';rw[h1];refine Cg ?_;show Ek PP [.cell 2 _,.cell 3 _] [] G _ w';simp only[Ek,g4,g5];refine AR (B:=X') rfl ?_;refine FJ (B:=E') rfl ?_;exact⟨.inr ⟨I,rfl⟩,⟨Fr.st e.e f' λi hi=>by omega⟩⟩
  |panicked c=>exact he
  |outgrown=>exact he
 by_cases F:[119,103] <+: s0
 case neg =>
  refine AA (fF (s:=s0) (p:=[119,103])) ?_;rintro _ _ ⟨⟨d1,rfl⟩|⟨_,rfl⟩,rfl⟩
  ·exact absurd d1 F
  refine Hm (FG ?_);exact pan X2 E2 stp (LW (zQs F)) rfl rfl
 obtain⟨s,rfl⟩:=F
 have c2:Sp PP 125 #[Ag ([119,103]++s),Ag [119,103]] w2 λv w'=>v=.tuple #[Ag s,.bool true]/\w'=w2:=(fF (s:=[119,103]++s) (p:=[119,103])).mono λv w' h=>by
  rcases h with⟨⟨_,h1⟩|⟨h1,_⟩,h2⟩
  ·exact⟨h1,h2⟩
  ·exact absurd ⟨s,rfl⟩ h1
 refine AA c2 ?_;rintro _ _ ⟨rfl,rfl⟩;have hs:s.length<=4611686018427387904:=by simp at d0;omega
 have hI:=Pe (s:=[119,103]++s) (r:=s) rfl;refine AJ (cs:=[Ag s,.int .i64 0]) rfl (BM λbr w3 n3 B3=>?_);have f8:=n3.b;have R3:Lz w3 br s 0:=B3;clear B3;have a3:∀i,i=br->w.heap.size<=i:=by omega
 have C:¬S=br:=by omega
 have K:¬be=br:=by omega
 have X3:=X2.mv (w:=w3);have E3:=E2.mv (w:=w3);refine AO (gY R3 hs) ?_ ?_
 case' refine_2 =>
  rintro _ w4 ⟨rfl,I,f4⟩;have s4:AC w w4:=⟨Fr.st Le.e f4 a3⟩;rw[Jf]at I;rw[I]at hI;exact pan (X3.fr f4 C) (E3.fr f4 K) s4 (LW hI) rfl rfl
 rintro _ w4 ⟨N,A1,hr,rfl,R4,f4⟩;have s4:AC w w4:=⟨Fr.st Le.e f4 a3⟩;have c3:=hr.2;rw[Jf]at c3;rw[c3]at hI;have X4:=X3.fr f4 C;have E4:=E3.fr f4 K;refine rS X4 [.int .i64 (N:Int)] (HT _) λw5 X5 f5 _=>?_;have X5:Bk w5 S [.int .i64 (N:Int),.slice none 0 0,.slice none 0 0] 35:=X5;have s5:AC w w5:=⟨Fr.st s4.e f5 a5⟩;have E5:=E4.fr f5 W;have R5:=R4.fr f5 (λh=>C h.symm);refine rX X5 rfl (ite (λc4=>?_) (λc4=>?_))
 ·refine Hm (FG ?_);exact pan (x:=⟨N,⟨none,0,0⟩,⟨none,0,0⟩⟩) X5 E5 s5 (LW (by rw[hI];exact if_neg (by omega))) rfl rfl
 have b3:WG ([119,103]++s)=match Ae GQ N (s.drop A1) with|some (ps,u)=>some (N,ps,u)|none=>none:=hI.trans (if_pos (by omega))
 clear hI;refine rX X5 rfl ?_
 refine cN 31 [7,9] 31 N (λk u=>∃ps A ea ec wa wc vs,gQ w s S be br N A1 k u (BE 0 (Am ps)) ps A ea ec wa wc vs)
  ⟨([]:List (List Nat×List (U8))),A1,none,0,none,0,[],⟨R5,X5,E5,AD.nil _ _ _,AD.nil _ _ _,⟨rfl,λi h=>absurd h (by simp)⟩,s5⟩,rfl,hr.1,by rw[dR,JF],by simp⟩ ?_
 rintro k gf u hk ⟨ps,A,ea,ec,wa,wc,vs,J⟩;have d2:=J.rows.1;rw[Qr,J.len]at d2;refine ite (λAY=>?_) (λf9=>?_)
 case' refine_2 =>
  have q_:k=N:=by omega
  obtain rfl:=q_;have hd:Ae GQ k (s.drop A1)=some (ps,s.drop A):=by rw[<-J.pre,JN];simp[Ae,Gt]
  rw[hd]at b3;have c5:=fQ (Am ps) 0 (by intro l hl;obtain⟨p,F,rfl⟩:=Qq.1 hl;exact(J.sm p F).1);rw[Qr,J.len]at c5
  have V:Kt u ⟨k,⟨ea,(BE 0 (Am ps)).length,ec⟩,⟨wa,vs.length,wc⟩⟩ (Lv k ps) vs:=⟨rfl,J.es.sl,J.wo.sl,J.rows.v,⟨by show(BE 0 (Am ps)).length<=1000000;omega,by omega,λl hl=>by obtain⟨p,F,rfl⟩:=Qq.1 hl;have:=(J.sm p F).2.1;simp;omega⟩,λl hl x hx=>by
   have q_:=Qq.1 hl;obtain⟨p,F,rfl⟩:=q_;have q_:=Qq.1 hx;obtain⟨y,hy,rfl⟩:=q_;have:=(J.sm p F).2.2 y hy;have h2:=AM y;show(⟨y.toArray⟩:ByteArray).size<=_;omega⟩
  have hz:=AM s;have JR:=J.rd;have JG:=J.g;have JE:=J.e;have Js:=J.st;refine rX JR rfl (ite (λh1=>?_) (λh1=>?_))
  ·refine Hm (FG ?_);refine pan (x:=⟨k,⟨ea,(BE 0 (Am ps)).length,ec⟩,⟨wa,vs.length,wc⟩⟩) JG JE Js ?_ rfl rfl;unfold Ea;rw[b3];dsimp only;rw[if_neg];rintro⟨h2,_⟩;have:=congrArg List.length h2;rw[QR]at this;simp at this;have:=J.at';omega
  have hA:s.drop A=[]:=by rw[List.drop_eq_nil_iff];omega
  refine rG JG (⟨k,⟨ea,(BE 0 (Am ps)).length,ec⟩,⟨wa,vs.length,wc⟩⟩:FY) (AA (dP V) ?_);rintro _ u2 ⟨⟨rfl,hg⟩|⟨rfl,hg⟩,e2⟩
  ·have G2:=JG.mv (w:=u2);have d3:=JE.mv (w:=u2);refine rG G2 (⟨k,⟨ea,(BE 0 (Am ps)).length,ec⟩,⟨wa,vs.length,wc⟩⟩:FY) (rE G2 (⟨k,⟨ea,(BE 0 (Am ps)).length,ec⟩,⟨wa,vs.length,wc⟩⟩:FY) λu3 X6 f6 _=>?_);have X6:Bk u3 S (enc (⟨k,⟨ea,(BE 0 (Am ps)).length,ec⟩,⟨wa,vs.length,wc⟩⟩:FY)) 35:=X6;have E6:=d3.fr f6 W;refine rS E6 [.int .i64 0] (HT _) λu4 E7 z _=>?_;have X7:=X6.fr z (λh=>W h.symm);have s7:AC w u4:=⟨Fr.st (Fr.st (Js.e.t e2.e) f6 a5) z λi hi=>by omega⟩;have O7:=((J.es.up (w':=u2)).frc f6 G2).frc z E6;have W7:=((J.wo.up (w':=u2)).frc f6 G2).frc z E6;have Q7:=((J.rows.up (w':=u2)).frc f6 G2).frc z E6;refine T5 (by simp) ⟨(oX (bx:=S) (be:=be) (w:=u4)).can,Sc (oX (bx:=S) (be:=be) (w:=u4)).calls ?_⟩;intro en u' w' hh
   cases en with
   |returned v =>
    obtain⟨rfl,rfl⟩:=hh;refine Cg ?_;refine AR (B:=X7) rfl ?_;refine FJ (B:=E7) rfl ?_;refine⟨.inl ⟨Lv k ps,_,vs,?_,rfl,⟨rfl,O7.sl,W7.sl,Q7.v,V.small,V.words⟩⟩,s7⟩;unfold Ea;rw[b3];dsimp only;rw[if_pos ⟨hA,hg⟩]
   |panicked c=>exact hh
   |outgrown=>exact hh
  ·refine Hm (FG ?_);refine pan (x:=⟨k,⟨ea,(BE 0 (Am ps)).length,ec⟩,⟨wa,vs.length,wc⟩⟩) (JG.mv (w:=u2)) (JE.mv (w:=u2)) ⟨Js.e.t e2.e⟩ ?_ rfl rfl;unfold Ea;rw[b3];dsimp only;rw[if_neg];exact λh=>hg h.2
 have b7:N - k=(N - (k+1))+1:=by omega
 have a0:GQ (s.drop A)=none->Ea ([119,103]++s)=none:=λh=>LW (b3.trans (by rw[<-J.pre,b7,Zq h];rfl));have J0:=J.toPaJ;have a9:=J.pre;have c0:=J.sm;have b0:=J.len;refine AO (zFp J.rd hs) ?_ ?_
 case' refine_2 =>
  rintro _ u1 ⟨rfl,I,f1⟩;have d4:=J.g.fr f1 C;have d5:=J.e.fr f1 K;exact pan (x:=⟨N,⟨ea,(BE 0 (Am ps)).length,ec⟩,⟨wa,vs.length,wc⟩⟩) d4 d5 ⟨Fr.st J.st.e f1 a3⟩ (a0 (zPj I)) rfl rfl
 rintro v1 u1 ⟨l,A2,Y,O1,B1,f1⟩;have J1:=J0.read f1 B1 C K (by omega);have g0:=vL Y.2;have d6:=fQ (Am ps) 0 (by intro l hl;obtain⟨p,F,rfl⟩:=Qq.1 hl;exact(J.sm p F).1);rw[Qr,J.len]at d6;have d7:=Qw J.st.e.size (Qe _);have O1:=O1.mono d7;have q_:=O1.shape;obtain⟨ra,rc,rfl⟩:=q_;have d8:(AH l).length=l.length:=by simp[AH]
 refine cN 37 [9] 37 (AH l).length (λj u'=>∃ea ec,PaJ w s S be br N u' (BE 0 (Am ps)++(l.take j).map λt=>⟨k,t⟩) A2 ea ec wa wc vs (DY ps)/\AD w.heap.size 3 u' (.slice ra (AH l).length rc) (AH l))
  ⟨ea,ec,by simpa using J1,O1⟩ ?_
 rintro j g1 u2 hj ⟨L,M,J2,O2⟩;refine ite (λe7=>?_) (λe8=>?_)
 case' refine_1 =>
  have c8:j<l.length:=by omega
  have d9:=J2.g;have c9:(BE 0 (Am ps)++(l.take j).map λt=>(⟨k,t⟩:BP)).length<=1000000:=by rw[Qb,Qr,Qm];omega
  refine Bv O2.sl (x:=(l[j]:Int)) (by simp[AH,c8]) λb4 o4 A4=>AF (A4.cell0 rfl) (rX d9 rfl (AJ (cs:=enc (⟨k,l[j]⟩:BP)) rfl (HS (α:=BP) ⟨k,l[j]⟩ rfl rfl (by decide) λb5 u5 e5 _ S5=>?_)));have s2:=J2.st;have J5:=J2.up (u':=u5);have a1:=J5.g;refine Ax (u:=w) ⟨rfl,rfl⟩ J5.es S5 (by omega) λv6 u6 O6 f6 s6=>?_;have G6:=a1.fro J5.es f6;have e0:BE 0 (Am ps)++(l.take (j+1)).map (λt=>(⟨k,t⟩:BP))=(BE 0 (Am ps)++(l.take j).map λt=>(⟨k,t⟩:BP))++[⟨k,l[j]⟩]:=by rw[Cs c8,QB,Qp];rfl
  rw[<-e0]at O6;have q_:=O6.shape;obtain⟨a6,c6,rfl⟩:=q_;refine rS G6 [.slice a6 (BE 0 (Am ps)++(l.take (j+1)).map λt=>(⟨k,t⟩:BP)).length c6] (Gs _ _ _) λu7 Q z _=>?_
  have J7:PaJ w s S be br N u7 (BE 0 (Am ps)++(l.take (j+1)).map λt=>(⟨k,t⟩:BP)) A2 a6 c6 wa wc vs (DY ps):=
   ⟨(J5.rd.fro J5.es f6).fr z (λh=>C h.symm),Q,(J5.e.fro J5.es f6).fr z W,O6.frc z G6,(J5.wo.fro J5.es f6).frc z G6,(J5.rows.fro J5.es f6).frc z G6,⟨Fr.st (lE w u6) z a5⟩⟩
  have O7:=((O2.up (w':=u5)).fro J5.es f6).frc z G6;exact rA ⟨rfl,by omega,a6,c6,J7,O7⟩
 have q_:j=(AH l).length:=by omega
 obtain rfl:=q_;rw[d8,Qg]at J2;have c9:(BE 0 (Am ps)++l.map λt=>(⟨k,t⟩:BP))=BE 0 (Am ps++[l]):=by rw[wE,JO,Qr,J.len]
 rw[c9]at J2;clear J0 J1;refine dT (λ_=>True) (oL [0,2,3] (.duo 1 (oL [4,5,6,7,8,9] .nil) 4 (.duo 1 (oL [5,6,7,8,9] .nil) 5 (.duo 1 (oL [6,7,8,9] .nil) 6 (.lone 1 (oL [7,8,9] .nil)))))) λu3 e3=>?_;have J3:=J2.up (u':=u3);have a4:w.heap.size<=br:=by omega
 have g2:vs.length<=200:=by omega
 clear J2 J R5 X5 E5 E4 X4 R4 E3 X3 R3 X2 E2;refine⟨?_,?_⟩
 ·have e4:=J3.g;refine rX e4 rfl ⟨Fr.refl _ _,?_⟩;have NS:=gY J3.rd hs;refine AO NS ?_ ?_
  case' refine_2 =>
   rintro _ u4 ⟨rfl,I,O⟩;have b8:=J3.g.fr O C;have c1:=J3.e.fr O K;intro F' ag;show Ho PP Tryz.f96.results.toList (Nd ([119,103]++s) w) (λ_ _=>False) F' Hy _;refine Rs (ag 4294967296 rfl) (d:={ target:=.fn (.func 147) #[.pointer (some ⟨S,0,none⟩),.pointer (some ⟨be,0,none⟩)],args:=#[] }) (ds:=[]) rfl ?_;exact pan (x:=⟨N,⟨L,(BE 0 (Am ps++[l])).length,M⟩,⟨wa,vs.length,wc⟩⟩) b8 c1 ⟨Fr.st J3.st.e O a3⟩ (a0 (YB Y.2 (qO I))) (ag 2 rfl) (ag 3 rfl)
  rintro _ u4 ⟨n1,A3,b1,rfl,R4,O⟩;refine⟨Fr.mono O λ_ _ _=>trivial,?_⟩;have J4:=J3.read O R4 C K a4;have hW:=NO b1.2;have SS:=jY (n:=n1) J4.rd b1.1 hs;refine AO SS ?_ ?_
  case' refine_2 =>
   rintro _ u5 ⟨rfl,I,E⟩;have a1:=J4.g.fr E C;have b9:=J4.e.fr E K;intro F' ag;show Ho PP Tryz.f96.results.toList (Nd ([119,103]++s) w) (λ_ _=>False) F' Hy _;refine Rs (ag 4294967296 rfl) (d:={ target:=.fn (.func 147) #[.pointer (some ⟨S,0,none⟩),.pointer (some ⟨be,0,none⟩)],args:=#[] }) (ds:=[]) rfl ?_;exact pan (x:=⟨N,⟨L,(BE 0 (Am ps++[l])).length,M⟩,⟨wa,vs.length,wc⟩⟩) a1 b9 ⟨Fr.st J4.st.e E a3⟩ (a0 (YB Y.2 (by rw[hW];split;exact I (by assumption);rfl))) (ag 2 rfl) (ag 3 rfl)
  rintro _ u5 ⟨o,A4,b2,Z,O5,R5,E⟩;refine⟨Fr.mono E λ_ _ _=>trivial,?_⟩;have J5:=J4.read E R5 C K a4;have O5:=O5.mono J4.st.e.size;have q5:=O5.shape;obtain⟨sa,sc,rfl⟩:=q5;refine bS (⟨sa,(o.map AS).length,sc⟩:SV) λb6 u6 e6 _ S6=>⟨Fr.mono e6.e λ_ _ _=>trivial,?_⟩;have f:=J5.up (u':=u6);have s6:=f.st;have a2:=f.g;refine Ax (u:=w) ⟨rfl,rfl⟩ f.wo S6 (by omega) λv7 u7 O7 z s7=>⟨Fr.mono z λ_ _ _=>trivial,?_⟩;have Q:=a2.fro f.wo z;have q7:=O7.shape;obtain⟨a7,c7,rfl⟩:=q7;refine rS Q [.slice a7 (vs++[(⟨sa,(o.map AS).length,sc⟩:SV)]).length c7] (Gs _ _ _) λu8 G8 H _=>⟨Fr.mono H λ_ _ _=>trivial,?_⟩;have a8:=(((O5.up (w':=u6)).fro f.wo z).frc H Q);have U:=YJ Y.2 (show EM (s.drop A2)=some (o,s.drop A4) by rw[hW,if_pos b2];exact Z.2);have e1:Am (ps++[(l,o)])=Am ps++[l]:=by simp[Am]
  have e2:DY (ps++[(l,o)])=DY ps++[o.map AS]:=by simp[DY]
  have J8:PaJ w s S be br N u8 (BE 0 (Am (ps++[(l,o)]))) A4 L M a7 c7 (vs++[(⟨sa,(o.map AS).length,sc⟩:SV)]) (DY (ps++[(l,o)])):=by
   rw[e1,e2];exact⟨(f.rd.fro f.wo z).fr H (λh=>C h.symm),G8,(f.e.fro f.wo z).fr H W,(f.es.fro f.wo z).frc H Q,O7.frc H Q,Bn.add ((f.rows.fro f.wo z).frc H Q) a8,⟨Fr.st (lE w u7) H a5⟩⟩
  refine rA ⟨rfl,by omega,ps++[(l,o)],A4,L,M,a7,c7,vs++[(⟨sa,(o.map AS).length,sc⟩:SV)],J8,?_,Z.1,?_,?_⟩
  ·rw[Qb,b0];rfl
  ·rw[<-a9,b7,TM U]
  ·intro p F;have q_:=Qf.1 F;rcases q_ with F|F
   ·exact c0 p F
   ·rw[Qc.1 F];exact aY U
 have NS:=gY J3.rd hs;refine AO NS ?_ ?_
 case' refine_2 =>
  rintro _ u4 ⟨rfl,I,O⟩;have b8:=J3.g.fr O C;have c1:=J3.e.fr O K;intro F' ag;show Ho PP Tryz.f96.results.toList (Nd ([119,103]++s) w) (λ_ _=>False) F' Hy _;refine Rs (ag 4294967296 rfl) (d:={ target:=.fn (.func 147) #[.pointer (some ⟨S,0,none⟩),.pointer (some ⟨be,0,none⟩)],args:=#[] }) (ds:=[]) rfl ?_;exact pan (x:=⟨N,⟨L,(BE 0 (Am ps++[l])).length,M⟩,⟨wa,vs.length,wc⟩⟩) b8 c1 ⟨Fr.st J3.st.e O a3⟩ (a0 (YB Y.2 (qO I))) (ag 2 rfl) (ag 3 rfl)
 rintro _ u4 ⟨n1,A3,b1,rfl,R4,O⟩;refine⟨Fr.mono O λ_ _ _=>trivial,?_⟩;have J4:=J3.read O R4 C K a4;have hW:=NO b1.2;refine⟨?_,?_⟩
 ·have b8:=J4.g;refine rX b8 rfl ⟨Fr.refl _ _,?_⟩;have SS:=jY (n:=n1) J4.rd b1.1 hs;refine AO SS ?_ ?_
  case' refine_2 =>
   rintro _ u5 ⟨rfl,I,E⟩;have a1:=J4.g.fr E C;have b9:=J4.e.fr E K;intro F' ag;show Ho PP Tryz.f96.results.toList (Nd ([119,103]++s) w) (λ_ _=>False) F' Hy _;refine Rs (ag 4294967296 rfl) (d:={ target:=.fn (.func 147) #[.pointer (some ⟨S,0,none⟩),.pointer (some ⟨be,0,none⟩)],args:=#[] }) (ds:=[]) rfl ?_;exact pan (x:=⟨N,⟨L,(BE 0 (Am ps++[l])).length,M⟩,⟨wa,vs.length,wc⟩⟩) a1 b9 ⟨Fr.st J4.st.e E a3⟩ (a0 (YB Y.2 (by rw[hW];split;exact I (by assumption);rfl))) (ag 2 rfl) (ag 3 rfl)
  rintro _ u5 ⟨o,A4,b2,Z,O5,R5,E⟩;refine⟨Fr.mono E λ_ _ _=>trivial,?_⟩;have J5:=J4.read E R5 C K a4;have O5:=O5.mono J4.st.e.size;have q5:=O5.shape;obtain⟨sa,sc,rfl⟩:=q5;refine bS (⟨sa,(o.map AS).length,sc⟩:SV) λb6 u6 e6 _ S6=>⟨Fr.mono e6.e λ_ _ _=>trivial,?_⟩;have f:=J5.up (u':=u6);have s6:=f.st;have a2:=f.g;refine Ax (u:=w) ⟨rfl,rfl⟩ f.wo S6 (by omega) λv7 u7 O7 z s7=>⟨Fr.mono z λ_ _ _=>trivial,?_⟩;have Q:=a2.fro f.wo z;have q7:=O7.shape;obtain⟨a7,c7,rfl⟩:=q7;refine rS Q [.slice a7 (vs++[(⟨sa,(o.map AS).length,sc⟩:SV)]).length c7] (Gs _ _ _) λu8 G8 H _=>⟨Fr.mono H λ_ _ _=>trivial,?_⟩;have a8:=(((O5.up (w':=u6)).fro f.wo z).frc H Q);have U:=YJ Y.2 (show EM (s.drop A2)=some (o,s.drop A4) by rw[hW,if_pos b2];exact Z.2);have e1:Am (ps++[(l,o)])=Am ps++[l]:=by simp[Am]
  have e2:DY (ps++[(l,o)])=DY ps++[o.map AS]:=by simp[DY]
  have J8:PaJ w s S be br N u8 (BE 0 (Am (ps++[(l,o)]))) A4 L M a7 c7 (vs++[(⟨sa,(o.map AS).length,sc⟩:SV)]) (DY (ps++[(l,o)])):=by
   rw[e1,e2];exact⟨(f.rd.fro f.wo z).fr H (λh=>C h.symm),G8,(f.e.fro f.wo z).fr H W,(f.es.fro f.wo z).frc H Q,O7.frc H Q,Bn.add ((f.rows.fro f.wo z).frc H Q) a8,⟨Fr.st (lE w u7) H a5⟩⟩
  refine rA ⟨rfl,by omega,ps++[(l,o)],A4,L,M,a7,c7,vs++[(⟨sa,(o.map AS).length,sc⟩:SV)],J8,?_,Z.1,?_,?_⟩
  ·rw[Qb,b0];rfl
  ·rw[<-a9,b7,TM U]
  ·intro p F;have q_:=Qf.1 F;rcases q_ with F|F
   ·exact c0 p F
   ·rw[Qc.1 F];exact aY U
 have SS:=jY (n:=n1) J4.rd b1.1 hs;refine AO SS ?_ ?_
 case' refine_2 =>
  rintro _ u5 ⟨rfl,I,E⟩;have a1:=J4.g.fr E C;have b9:=J4.e.fr E K;intro F' ag;show Ho PP Tryz.f96.results.toList (Nd ([119,103]++s) w) (λ_ _=>False) F' Hy _;refine Rs (ag 4294967296 rfl) (d:={ target:=.fn (.func 147) #[.pointer (some ⟨S,0,none⟩),.pointer (some ⟨be,0,none⟩)],args:=#[] }) (ds:=[]) rfl ?_;exact pan (x:=⟨N,⟨L,(BE 0 (Am ps++[l])).length,M⟩,⟨wa,vs.length,wc⟩⟩) a1 b9 ⟨Fr.st J4.st.e E a3⟩ (a0 (YB Y.2 (by rw[hW];split;exact I (by assumption);rfl))) (ag 2 rfl) (ag 3 rfl)
 rintro _ u5 ⟨o,A4,b2,Z,O5,R5,E⟩;refine⟨Fr.mono E λ_ _ _=>trivial,?_⟩;have J5:=J4.read E R5 C K a4;have O5:=O5.mono J4.st.e.size;have q5:=O5.shape;obtain⟨sa,sc,rfl⟩:=q5;refine⟨?_,?_⟩
 ·have a1:=J5.g;refine rX a1 rfl ⟨Fr.refl _ _,?_⟩;refine bS (⟨sa,(o.map AS).length,sc⟩:SV) λb6 u6 e6 _ S6=>⟨Fr.mono e6.e λ_ _ _=>trivial,?_⟩;have f:=J5.up (u':=u6);have s6:=f.st;have a2:=f.g;refine Ax (u:=w) ⟨rfl,rfl⟩ f.wo S6 (by omega) λv7 u7 O7 z s7=>⟨Fr.mono z λ_ _ _=>trivial,?_⟩;have Q:=a2.fro f.wo z;have q7:=O7.shape;obtain⟨a7,c7,rfl⟩:=q7;refine rS Q [.slice a7 (vs++[(⟨sa,(o.map AS).length,sc⟩:SV)]).length c7] (Gs _ _ _) λu8 G8 H _=>⟨Fr.mono H λ_ _ _=>trivial,?_⟩;have a8:=(((O5.up (w':=u6)).fro f.wo z).frc H Q);have U:=YJ Y.2 (show EM (s.drop A2)=some (o,s.drop A4) by rw[hW,if_pos b2];exact Z.2);have e1:Am (ps++[(l,o)])=Am ps++[l]:=by simp[Am]
  have e2:DY (ps++[(l,o)])=DY ps++[o.map AS]:=by simp[DY]
  have J8:PaJ w s S be br N u8 (BE 0 (Am (ps++[(l,o)]))) A4 L M a7 c7 (vs++[(⟨sa,(o.map AS).length,sc⟩:SV)]) (DY (ps++[(l,o)])):=by
   rw[e1,e2];exact⟨(f.rd.fro f.wo z).fr H (λh=>C h.symm),G8,(f.e.fro f.wo z).fr H W,(f.es.fro f.wo z).frc H Q,O7.frc H Q,Bn.add ((f.rows.fro f.wo z).frc H Q) a8,⟨Fr.st (lE w u7) H a5⟩⟩
  refine rA ⟨rfl,by omega,ps++[(l,o)],A4,L,M,a7,c7,vs++[(⟨sa,(o.map AS).length,sc⟩:SV)],J8,?_,Z.1,?_,?_⟩
  ·rw[Qb,b0];rfl
  ·rw[<-a9,b7,TM U]
  ·intro p F;have q_:=Qf.1 F;rcases q_ with F|F
   ·exact c0 p F
   ·rw[Qc.1 F];exact aY U
 refine bS (⟨sa,(o.map AS).length,sc⟩:SV) λb6 u6 e6 _ S6=>⟨Fr.mono e6.e λ_ _ _=>trivial,?_⟩;have f:=J5.up (u':=u6);have a2:=f.g;refine rX a2 rfl ⟨Fr.refl _ _,?_⟩;have s6:=f.st;have a2:=f.g;refine Ax (u:=w) ⟨rfl,rfl⟩ f.wo S6 (by omega) λv7 u7 O7 z s7=>⟨Fr.mono z λ_ _ _=>trivial,?_⟩;have Q:=a2.fro f.wo z;have q7:=O7.shape;obtain⟨a7,c7,rfl⟩:=q7;refine rS Q [.slice a7 (vs++[(⟨sa,(o.map AS).length,sc⟩:SV)]).length c7] (Gs _ _ _) λu8 G8 H _=>⟨Fr.mono H λ_ _ _=>trivial,?_⟩;have a8:=(((O5.up (w':=u6)).fro f.wo z).frc H Q);have U:=YJ Y.2 (show EM (s.drop A2)=some (o,s.drop A4) by rw[hW,if_pos b2];exact Z.2);have e1:Am (ps++[(l,o)])=Am ps++[l]:=by simp[Am]
 have e2:DY (ps++[(l,o)])=DY ps++[o.map AS]:=by simp[DY]
 have J8:PaJ w s S be br N u8 (BE 0 (Am (ps++[(l,o)]))) A4 L M a7 c7 (vs++[(⟨sa,(o.map AS).length,sc⟩:SV)]) (DY (ps++[(l,o)])):=by
  rw[e1,e2];exact⟨(f.rd.fro f.wo z).fr H (λh=>C h.symm),G8,(f.e.fro f.wo z).fr H W,(f.es.fro f.wo z).frc H Q,O7.frc H Q,Bn.add ((f.rows.fro f.wo z).frc H Q) a8,⟨Fr.st (lE w u7) H a5⟩⟩
 refine rA ⟨rfl,by omega,ps++[(l,o)],A4,L,M,a7,c7,vs++[(⟨sa,(o.map AS).length,sc⟩:SV)],J8,?_,Z.1,?_,?_⟩
 ·rw[Qb,b0];rfl
 ·rw[<-a9,b7,TM U]
 ·intro p F;have q_:=Qf.1 F;rcases q_ with F|F
  ·exact c0 p F
  ·rw[Qc.1 F];exact aY U
section
variable {P:Program} {α:Type} [AK α] [DecidableEq α] {t:TypeId}
theorem OB(Q:UH P t α)(k:α)(w:World):∀(es:List MapEntry) (m:List (α×Value)) (i:Nat),Fp agg es m->(Instr.findAsking t (agg k) es i).run P w=.ok (DE k m i) w
 |[],m,i,h=>by rw[Xt h];rfl
 |e::es,m,i,h=>by
  have c:=bV h;obtain⟨f,r,rfl,l,o⟩:=c;have p:=OB Q k w es r (i+1) o;unfold Instr.findAsking DE;rw[l];have c:=Q.eq 9992 k f w;obtain⟨b,v,x⟩:=c;have d:(Op.equal t (agg k) (agg f)).run P w=.ok b w:=v;simp only[Qo,d,Qh]
  cases b with
  |true=>rw[if_pos rfl,if_pos (x.1 rfl)];rfl
  |false=>rw[if_neg (by simp),if_neg (λe=>by simp_all)];exact p
@[reducible] def Zr {fs:Array Field} (Q:UH P t α) (hu:P.underlying t=some (.struct fs)) (hc:∀(e:Bool) (k:α) (w:World),(Instr.checkKey e 10000 t (agg k)).run P w=.ok () w) (hs:∀k:α,Instr.sameBits 10000 (agg k) (agg k)=true):Em P t α where
 val:=agg
 check:=hc
 find k es m w h:=by
  unfold Instr.findKey
  simp only[underlying,Sem.run_bind,run_program,Result.andThen_ok,hu,Sem.run_pure]
  cases es with
  |nil=>rw[Xt h];rfl
  |cons e r =>
   have:Instr.findNow (.struct fs) (agg k) (e::r) 0=none:=by
    unfold Instr.findNow
    rfl
   rw[this]
   exact OB Q k w _ _ _ h
 same:=hs
end
theorem LI{kt:TypeId}{κ:Type}[DecidableEq κ][M:Em P kt κ]{k:KW}{f:PW}{t e:TypeId}{z:Value}{sz c:Nat}[r:EL P t kt e][y:AX P e z sz c]{b:Nat}{m:List (κ×Value)}{d:Value}(h:BO P kt w b m)(x:κ)(l:d=M.val x){v:Value}(o:(Au m x).getD z=v)(p:k v w):AI P (Instr.lookup t (.map (some b)) d false) k f w:=by
 subst o;exact Hk h x l p
theorem zOZ(k:Al):Instr.sameBits 10000 (agg k) (agg k)=true:=by
 show Instr.sameBits 10000 (.agg #[.int .i64 k.slot,.int .i64 k.dir,.int .i64 k.v]) (.agg #[.int .i64 k.slot,.int .i64 k.dir,.int .i64 k.v])=true;simp[Instr.sameBits]
theorem zM3{t ti:TypeId}{fs:Array Field}{q:IntKind}(d:P.underlying t=some (.struct fs))(h:One P ti)(hi:P.underlying ti=some (.int q))(xs:Array Value)
  (hb : fs.toList.all (λf => f.name != "_" && f.type == ti && decide (f.offset < xs.size)) = true)(e : Bool)(w : World) : (Instr.checkKey e 10000 t (.agg xs)).run P w = .ok () w := by
 rw[show(10000:Nat)=9999+1 from rfl,Instr.checkKey];simp only[Qo,run_underlying d,Qh];rw[<-Array.forIn_toList];generalize fs.toList=L at hb
 induction L with
 |nil=>simp
 |cons f L l =>
  rw[Ye,Qz]at hb;obtain⟨b,p⟩:=hb;simp only[Qz,bne_iff_ne,ne_eq,beq_iff_eq,decide_eq_true_eq]at b;obtain⟨⟨r,c⟩,z⟩:=b;have x:=gF (P:=P) (c ▸ h) (cs:=xs) (o:=f.offset) (v:=xs[f.offset]) (by simp) w
  have y:(Instr.checkKey e 9999 f.type xs[f.offset]).run P w=.ok () w:=by
   rw[c,show(9999:Nat)=9998+1 from rfl,Instr.checkKey];simp only[Qo,run_underlying hi,Qh];rfl
  simp only[List.forIn_cons,Qo,r,ne_eq,not_false_eq_true,if_true,Qh,x,y,Jd];exact l p
theorem zNX(e:Bool)(k:Al)(w:World):(Instr.checkKey e 10000 327 (agg k)).run PP w=.ok () w:=
 zM3 (ti:=3) (q:=.i64) (fs:=Program.fieldsOf PP 327) (by kernel_rfl) inferInstance (by kernel_rfl) _ (by kernel_rfl) e w
noncomputable instance:Em PP 327 Al:=Zr (fs:=Program.fieldsOf PP 327) inferInstance (by kernel_rfl) zNX zOZ
theorem zPq{l:List Int}(b:k<l.length):(l.drop (l.length - (k+1))).reverse=(l.drop (l.length - k)).reverse++[l[l.length - 1 - k]]:=by
 have e:l.length - (k+1)=l.length - 1 - k:=by omega
 rw[e,JS (by omega),List.reverse_cons,show l.length - 1 - k+1=l.length - k by omega]
section
variable {P:Program} {k:KW} {pn:PW} {w:World}
theorem iY{x:Int}(b:∀y,((-9223372036854775808<=x/\x<=9223372036854775807)->y=x)->k (.int .i64 y) w):Ob .i64 x k w:=by
 rw[ZX];exact b _ λh=>TR h.1 h.2
theorem Tm{t e:TypeId}{z:Value}{sz c:Nat}[d:MR P t N e][f:AX P e z sz c]{b o:Nat}{i:Int}(h0:0<=i)(h:i<N)(l:k (.pointer (some ⟨b,o+i.toNat*sz,none⟩)) w):
  AI P (Instr.indexAt t (.pointer (some ⟨b,o,none⟩)) (.int .i64 i)) k pn w:=AI.of (zPs d f h0 h w) l
end
theorem Ze{c:Nat}{l:List Int}(h:AQ w (.slice a n c) l)(o:l.length<=1000000):
  Sp PP 343 #[.slice a n c] w λv w'=>AD w.heap.size 3 w' v l/\AC w w':=by
 have e:=h.len;obtain rfl:=e;refine eN ?_;refine LC (λh0=>?_) (λh0=>?_)
 ·obtain⟨p,r,f,t,x⟩:=h;cases f;have:l=[]:=by simp_all
  subst this;exact⟨AD.nil _ _ _,stp⟩
 ·refine LE (n:=0) (vs:=[]) ([]:List Int) rfl rfl rfl (by omega) λb w1 n1 y=>NI (u:=w) ⟨rfl,rfl⟩ (AD.nil' w.heap.size 3 w1 _) h.up (by simp;omega) λz A d C E=>?_;rw[Je]at d;exact⟨d,stp⟩
theorem zJ5{c:Nat}{l:List Int}{x:Int}(h:AQ w (.slice a n c) l)(z:l.length<=1000000):
  Sp PP 384 #[.slice a n c,.int .i64 x] w λv w'=>(∃i:Int,v=.int .i64 i/\(0<=i↔x∈l))/\AC w w':=by
 have d:=h.len;obtain rfl:=d;refine eN ?_;refine cN 8 [4,5] 8 l.length (λk w'=>(∀j,j<k->¬l[j]? = some x)/\AC w w') ⟨by omega,stp⟩ ?_;rintro k g w' A ⟨hb,e⟩;refine ite (λAY=>?_) (λo=>?_)
 ·have b:k<l.length:=by omega
  refine Bv h.up (x:=l[k]) (by simp) λC E p=>AF (p.cell0 rfl) (ite (λr=>?_) (λf=>?_))
  ·exact⟨⟨_,rfl,⟨λ_=>by rw[r];exact Qa b,λ_=>by omega⟩⟩,stp⟩
  ·exact rA ⟨rfl,b,below hb (by simpa[b]using Jq f),stp⟩
 ·have d:k=l.length:=by omega
  obtain rfl:=d;refine⟨⟨_,rfl,⟨λh=>absurd h (by decide),λt=>?_⟩⟩,stp⟩;have d:=QI.1 t;obtain⟨j,y,rfl⟩:=d;exact absurd (by simp) (hb j y)
theorem qH{c:Nat}{l:List Int}{x:Int}(h:AQ w (.slice a n c) l)(b:l.length<=1000000):
  Sp PP 336 #[.slice a n c,.int .i64 x] w λv w'=>Ao (x∈l) v/\AC w w':=by
 refine eN ?_;refine AA (zJ5 h b) ?_;rintro v w1 ⟨⟨i,rfl,hi⟩,e⟩;exact ite (λh=>⟨.t (hi.1 h),stp⟩) (λh=>⟨.f λd=>h (hi.2 d),stp⟩)
def Hp (s:List Int):List Value:=(List.range 400).map λi:Nat=>Value.bool (decide ((i:Int)∈s))
theorem rL(s:List Int):(Hp s).length=400:=by simp[Hp]
theorem zN4(s:List Int){i:Int}(h0:0<=i)(b:i<400):(Hp s)[i.toNat]? = some (.bool (decide (i∈s))):=by
 unfold Hp;rw[QK,VS (by omega)];simp[Jh h0]
theorem zN6(s:List Int){i:Int}(h0:0<=i)(c:i<400):splice (Hp s) i.toNat [.bool true]=Hp (s++[i]):=by
 rw[SW _ _ _ (by rw[rL];omega)];refine Vl λj=>?_;rw[Vw];unfold Hp;simp only[QK,Qr,Vm];by_cases b:j<400
 ·rw[VS b];by_cases e:i.toNat=j
  ·have:(j:Int)=i:=by omega
   simp[e,b,this]
  ·have:(j:Int)≠i:=by omega
   simp[e,this]
 ·have:¬i.toNat=j:=by omega
  rw[if_neg this,Jg (by simpa using b)];rfl
theorem zN5:(Value.agg (Array.replicate 400 (Value.bool false))).cells.toList=Hp []:=by kernel_rfl
theorem uN{sz:Int}{c:Nat}{l:List Int}(h:AQ w (.slice a n c) l)(Y:l.length<=1000000):
  Sp PP 342 #[Se sz a n c] w λv w'=>Ao (RZ sz l) v/\AC w w':=by
 have y:=h.len;obtain rfl:=y;refine eN ?_;refine BM λZ w1 n1 G=>Ap λK w2 n2 C=>?_;rw[zN5]at C;refine Cx rfl ?_;refine cN 9 [2,5] 9 l.length (λk u=>(∀j,j<k->(hl:j<l.length)->0<=l[j]/\l[j]<sz)/\(l.take k).Nodup/\Bk u K (Hp (l.take k)) 477/\AC w1 u) ⟨by omega,by simp,by rw[Xa];exact C,stp⟩ ?_;rintro k g u hk ⟨hb,r,H,e⟩;clear C;refine ite (λAY=>?_) (λL=>?_)
 ·have d:k<l.length:=by omega
  refine Bv (h.up (w':=u)) (x:=l[k]) (by simp) λb4 o4 M=>AF (M.cell0 rfl) (ite (λO=>⟨.f λo=>by have:=o.2.2.1 _ (Qa d);omega,stp⟩) (λO=>?_));refine Cx rfl ?_;refine ite (λQ=>⟨.f λo=>by have:=o.2.2.1 _ (Qa d);omega,stp⟩) (λQ=>?_);refine ite (λh5=>⟨.f λo=>by have:=o.2.2.1 _ (Qa d);have:=o.2.1;omega,stp⟩) (λh5=>?_);refine Tm (by omega) (by omega) ?_;refine iA (B:=H) (v:=.bool (decide (l[k]∈l.take k))) (by rw[JO,Xq];exact zN4 _ (by omega) (by omega)) ?_;by_cases A:l[k]∈l.take k
  ·rw[decide_eq_true A];refine⟨.f λo=>?_,stp⟩;have p:(l.take (k+1)).Nodup:=o.2.2.2.sublist (List.take_sublist _ _);rw[Cs d,JU]at p;exact p.2.2 _ A l[k] (by simp) rfl
  ·rw[decide_eq_false A];refine Tm (by omega) (by omega) ?_;refine gJ (B:=H) (vs:=[.bool true]) rfl rfl (by rw[rL];simp only[VC];omega) (by simp;rfl) λS I U _=>?_;have V:AC w1 S:=n2.st U;rw[JO,Xq,zN6 _ (by omega) (by omega),<-Cs d]at I;refine rA ⟨rfl,d,Ul hb λ_=>⟨by omega,by omega⟩,?_,I,V⟩;rw[Cs d,JU];exact⟨r,by simp,λa W b hb=>by simp only[Qc]at hb;subst hb;exact λe=>A (e ▸ W)⟩
 ·have y:k=l.length:=by omega
  obtain rfl:=y;rw[Qg]at r
  have z:∀x∈l,0<=x/\x<sz:=λx X=>by
   have y:=QI.1 X;obtain⟨j,J,rfl⟩:=y;exact hb j J J
  refine rX G rfl (ite (λE=>?_) (λE=>⟨.f λo=>E o.1,stp⟩));refine rX G rfl ?_;exact ite (λF=>⟨.t ⟨E,F,z,r⟩,stp⟩) (λF=>⟨.f λo=>F o.2.1,stp⟩)
theorem zL1{size:Int}:Sp PP 153 #[.int .i64 size] w λv w'=>(∃z,v=.tuple #[z,.int .i64 (Ld size).2]/\EB w.heap.size w' z (Ld size).1)/\AC w w':=by
 refine eN ?_;refine Ap λb1 w1 n1 Q=>?_;unfold Ld;refine ite (λA=>?_) (λA=>?_)
 ·rw[if_pos (.inl A)];refine AJ (cs:=[.int .i64 0,.slice none 0 0]) rfl (DI (vs:=[.int .i64 0,.slice none 0 0]) rfl rfl rfl (CO _ _ _ _) λh C l _=>?_);have S:AC w h:=n1.st l;refine AR rfl ?_;exact⟨⟨_,rfl,Pv _ _⟩,stp⟩
 refine ite (λE=>?_) (λE=>?_)
 ·rw[if_pos (.inr E)];refine AJ (cs:=[.int .i64 0,.slice none 0 0]) rfl (DI (vs:=[.int .i64 0,.slice none 0 0]) rfl rfl rfl (CO _ _ _ _) λh C l _=>?_);have S:AC w h:=n1.st l;refine AR rfl ?_;exact⟨⟨_,rfl,Pv _ _⟩,stp⟩
 rw[if_neg (by omega)];have o:=QU (show(0:Int)<=size by omega);obtain⟨N,rfl⟩:=o;rw[QW];have U:=dZ N;refine AJ (cs:=[.int .i64 (N:Nat),.slice none 0 0]) rfl (Ap λV h n2 C=>DI (vs:=[.int .i64 (N:Nat),.slice none 0 0]) rfl rfl rfl (CO _ _ _ _) λW F X _=>?_);have s3:AC w1 W:=n2.st X;refine cN 16 [5] 16 N (λk u=>∃a c,Bk u V [.int .i64 (N:Nat),.slice a k c] 227/\AD w1.heap.size 3 u (.slice a k c) ((BR N).take k)/\AC w1 u) ⟨none,0,F,AD.nil _ _ _,stp⟩ ?_;rintro k g u hk ⟨a,c,p,O,e⟩;clear F;refine ite (λAY=>?_) (λY=>?_)
 ·have b:k<N:=by omega
  refine rX p rfl (rA (rA ?_));refine bS ((N:Int) - 1 - k) λb4 Z e4 _ S4=>Ax (u:=w1) ⟨rfl,rfl⟩ O.up S4 (by rw[Qm];omega) λv5 w5 r f5 s5=>?_;have d:=(p.mv (w:=Z)).fro O.up f5
  have t:((BR N).take k++[((N:Int) - 1 - k)])=(BR N).take (k+1):=by
   rw[zLL b,show(((N - 1 - k:Nat)):Int)=(N:Int) - 1 - k by omega]
  rw[t]at r;have x:((BR N).take (k+1)).length=k+1:=by rw[Qm];omega
  have G:=r.shape;rw[x]at G;obtain⟨H,I,rfl⟩:=G;refine rS d [.slice H (k+1) I] (by simp;rfl) λy J f _=>?_;have K:AC w1 y:=n2.st f;exact rA ⟨rfl,b,H,I,J,r.frc f d,K⟩
 ·have o:k=N:=by omega
  obtain rfl:=o;refine Cq (B:=p) rfl rfl ?_;have L:=Q.mv (w:=u);refine rS L [.int .i64 (k:Nat),.slice a k c] (CO _ _ _ _) λy J f _=>?_;have K:AC w y:=n1.st f;refine AR rfl ?_;have M:=O.frc f L;rw[Qj (by omega)]at M;exact⟨⟨_,rfl,(EB.mk M).older⟩,stp⟩
theorem zK3{sz m:Int}{c:Nat}{l:List Int}(h:AQ w (.slice a n c) l)(hn:l.length<=100000):
  Sp PP 258 #[Se sz a n c,.int .i64 m] w λv w'=>(∃r,v=.tuple #[r,.int .i64 (FL (sz,l) m).2]/\EB w.heap.size w' r (FL (sz,l) m).1)/\AC w w':=by
 have t:=h.len;obtain rfl:=t;refine eN ?_;refine BM λb1 w1 n1 B1=>Ap λJ x n2 W=>?_;have X:=n1.b;have Y:=n2.b;have Z:=n1.s;have a0:=n2.s
 have zero:∀(e:Int) (u:World),AC x u->FL (sz,l) m=(zP,e)->∀d,Bk d J [.int .i64 0,.slice none 0 0] 227->Fr (λi=>i=J) u d->(∃r,Value.tuple #[Se 0 none 0 0,.int .i64 e]=.tuple #[r,.int .i64 (FL (sz,l) m).2]/\EB w.heap.size d r (FL (sz,l) m).1)/\AC w d:=by
  intro e u s ht d _ f;rw[ht];exact⟨⟨_,rfl,Pv _ _⟩,⟨Fr.st Le.e f λi hi=>by omega⟩⟩
 refine Cq rfl rfl ?_;refine AA (uN (h.up (w':=x)) (by omega)) ?_;rintro v w3 ⟨⟨rfl,p⟩|⟨rfl,p⟩,e3⟩
 ·refine ite (λF=>?_) (λF=>?_)
  ·refine AJ (cs:=[.int .i64 0,.slice none 0 0]) rfl ?_;refine DI (vs:=[.int .i64 0,.slice none 0 0]) rfl rfl rfl (CO _ _ _ _) λd y f _=>?_;refine AR rfl ?_;exact zero 1 _ stp (by unfold FL;rw[if_pos p,if_pos (.inl F)]) d y f
  refine Cx rfl ?_;refine ite (λG=>?_) (λG=>?_)
  ·refine AJ (cs:=[.int .i64 0,.slice none 0 0]) rfl ?_;refine DI (vs:=[.int .i64 0,.slice none 0 0]) rfl rfl rfl (CO _ _ _ _) λd y f _=>?_;refine AR rfl ?_;exact zero 1 _ stp (by unfold FL;rw[if_pos p,if_pos (.inr G)]) d y f
  refine Cx rfl ?_;refine AA (qH (h.up (w':=w3)) (by omega)) ?_;rintro v d ⟨⟨rfl,hi⟩|⟨rfl,hi⟩,e4⟩
  ·refine AJ (cs:=[.int .i64 0,.slice none 0 0]) rfl ?_;refine DI (vs:=[.int .i64 0,.slice none 0 0]) rfl rfl rfl (CO _ _ _ _) λH B5 f5 _=>?_;refine AR rfl ?_;exact zero 150 _ stp (by unfold FL;rw[if_pos p,if_neg (λh=>h.elim F G),if_pos hi]) H B5 f5
  ·have hg:FL (sz,l) m=((sz,l++[m]),0):=by unfold FL;rw[if_pos p,if_neg (λh=>h.elim F G),if_neg hi]
   rw[hg];refine dT (λi=>i=J\/x.heap.size<=i) (oL [0,1,2,3,5] (.two 4 (oL [6,7,8,9,10] .nil) 6 (oL [4,7,8,9,10] .nil))) λK e1=>?_;refine Nf rfl (by omega) ?_;refine Nf rfl (by omega) ?_;refine⟨?_,?_⟩
   ·refine AA (Ze (h.up (w':=K)) (by omega)) ?_;rintro v H ⟨L,M⟩;refine⟨M.e.fr,?_⟩;refine bS m λb6 I O _ Q=>⟨O.e.fr,?_⟩;refine Ax (u:=K) ⟨rfl,rfl⟩ L.up Q (by omega) λv7 S z f7 U=>⟨U.e.mono λi _ hi=>.inr (Qw (lz x K) hi),?_⟩;have t:=z.shape;obtain⟨A,C,rfl⟩:=t;refine As (cs:=[.int .i64 sz,.slice A (l++[m]).length C]) rfl ?_;have E:=W.mv (w:=S);refine rS E [.int .i64 sz,.slice A (l++[m]).length C] (CO _ _ _ _) λV B8 o _=>?_;have s8:AC w V:=⟨Fr.st Le.e o λi hi=>by omega⟩;refine⟨o.mono λi _ hi=>.inl hi,?_⟩;refine AR rfl ?_;exact⟨⟨_,rfl,(EB.mk (z.frc o E)).older⟩,stp⟩
   ·refine bS m λb6 I O _ Q=>⟨O.e.fr,?_⟩;refine AA (Ze (h.up (w':=I)) (by omega)) ?_;rintro v H ⟨L,M⟩;refine⟨M.e.fr,?_⟩;refine Ax (u:=I) ⟨rfl,rfl⟩ L.up (Q.up (w':=H)) (by omega) λv7 S z f7 U=>⟨U.e.mono λi _ hi=>.inr (Qw (lz x I) hi),?_⟩;have t:=z.shape;obtain⟨A,C,rfl⟩:=t;refine As (cs:=[.int .i64 sz,.slice A (l++[m]).length C]) rfl ?_;have E:=W.mv (w:=S);refine rS E [.int .i64 sz,.slice A (l++[m]).length C] (CO _ _ _ _) λV B8 o _=>?_;have s8:AC w V:=⟨Fr.st Le.e o λi hi=>by omega⟩;refine⟨o.mono λi _ hi=>.inl hi,?_⟩;refine AR rfl ?_;exact⟨⟨_,rfl,(EB.mk (z.frc o E)).older⟩,stp⟩
 ·refine AJ (cs:=[.int .i64 0,.slice none 0 0]) rfl ?_;refine DI (vs:=[.int .i64 0,.slice none 0 0]) rfl rfl rfl (CO _ _ _ _) λd y f _=>?_;refine AR rfl ?_;exact zero 130 _ stp (by unfold FL;rw[if_neg p]) d y f
def Fo (l:List Int):List (List Value):=(List.range l.length).reverse.map λi:Nat=>[.int .i64 i,.int .i64 (l.getD i 0)]
theorem kR(l:List Int):(Fo l).length=l.length:=by simp[Fo]
theorem zM1{l:List Int}:∀x∈Fo l,x.length=2:=by simp[Fo]
theorem wF{l:List Int}(h:k<l.length):(Fo l)[k]? = some [.int .i64 ((l.length - 1 - k:Nat):Int),.int .i64 (l[l.length - 1 - k]'(by omega))]:=by
 unfold Fo;rw[QK,List.getElem?_reverse (by simpa using h),Vm,VS (by omega)];simp only[JD,Ph (show l.length - 1 - k<l.length by omega)]
structure OU (l:List Int) (a:OA) (c bs:Nat) (u:World):Prop where
 s:AQ u (.slice a l.length c) l
 b:Bk u bs [.slice a l.length c] 63
theorem xG{l:List Int}{c bs:Nat}(F:l.length<=1000000):
  Kv PP 417 [] [.pointer (some ⟨bs,0,none⟩)] (OU l a c bs) (Fo l):=by
 refine⟨λy J G w H z t A h0=>?_⟩;refine eN ?_;refine AF ((t 0 w h0).b.at.cell0 rfl) (rA (GV Aa 4 [] 3 (λv u=>∃k:Nat,k<=l.length/\∃j:Int,v=.int .i64 j/\j=(l.length:Int) - 1 - k/\J k u) (λv _=>((Go.RowKit.intOf v)+1).toNat) rfl ⟨0,by omega,_,rfl,by omega,h0⟩ ?_));rintro v g u ⟨k,I,j,rfl,K,d⟩;refine ite (λh=>?_) (λAY=>?_)
 ·have o:=QU h;obtain⟨f,rfl⟩:=o;have p:k<l.length:=by omega
  have r:f=l.length - 1 - k:=by omega
  have hd:=t _ _ d;refine AF (hd.b.at.cell0 rfl) (Bv hd.s (x:=l[f]'(by omega)) (by simp) λL M C=>AF (C.cell0 rfl) ?_);have E:(Fo l)[k]? = some [.int .i64 (f:Nat),.int .i64 (l[f]'(by omega))]:=by subst r;exact wF p
  refine IR rfl rfl rfl rfl (A k u _ E d) ?_;rintro b u' (⟨rfl,e⟩|⟨rfl,e⟩)
  ·refine rA ⟨⟨k+1,by omega,_,rfl,by omega,e⟩,?_⟩;show(((f:Int) - 1)+1).toNat<((f:Int)+1).toNat;omega
  ·exact .inr e
 ·have o:k=l.length:=by omega
  obtain rfl:=o;rw[<-kR l]at d;exact .inl d
theorem xX{c:Nat}{l:List Int}(h:AQ w (.slice a n c) l):
  Sp PP 397 #[.slice a n c] w λv w'=>(∃bs,v=.func (.func 417) #[] #[.pointer (some ⟨bs,0,none⟩)]/\w.heap.size<=bs/\OU l a c bs w')/\AC w w':=by
 have b:=h.len;obtain rfl:=b;refine eN ?_;refine BM λd w1 n1 e=>?_;exact⟨⟨d,rfl,n1.lo,h.up,e.mv⟩,stp⟩
theorem Yn{l:List Int}{y:List Value}(c:m<=l.length)(h:(Fo (l.drop m))[k]? = some y):∃b:k<l.length - m,y=[.int .i64 (((l.length - m) - 1 - k:Nat):Int),.int .i64 (l[l.length - 1 - k]'(by omega))]/\(l.drop (l.length - (k+1))).reverse=(l.drop (l.length - k)).reverse++[l[l.length - 1 - k]'(by omega)]:=by
 have b:=(Qy.1 h).1;rw[kR,QR]at b;refine⟨b,?_,zPq (by omega)⟩;rw[wF (by simp_all)]at h;injection h with h;subst h;have e:m+(l.length - m - 1 - k)=l.length - 1 - k:=by omega
 simp only[QR,List.getElem_drop,e]
theorem zJQ{sz m:Int}{c:Nat}{l:List Int}(h:AQ w (.slice a n c) l)(hn:l.length<=100000)(hm:-9223372036854775808<=m/\m<=9223372036854775807):
  Sp PP 380 #[Se sz a n c,.int .i64 m] w λv w'=>(∃lv F,v=.tuple #[lv,F,.int .i64 (CJ (sz,l) m).2.2]/\AD w.heap.size 3 w' lv (CJ (sz,l) m).1/\EB w.heap.size w' F (CJ (sz,l) m).2.1)/\AC w w':=by
 have x:=h.len;obtain rfl:=x;refine eN ?_;refine BM λb1 w1 n1 B1=>Ap λQ S n2 B3=>?_;have a1:=n1.b;have a3:=n2.b;have a4:=n1.s;have a5:=n2.s
 have zero:∀(e:Int) (u:World),AC S u->CJ (sz,l) m=([],zP,e)->∀d,Bk d Q [.int .i64 0,.slice none 0 0] 227->Fr (λi=>i=Q) u d->(∃lv F,Value.tuple #[.slice none 0 0,Se 0 none 0 0,.int .i64 e]=.tuple #[lv,F,.int .i64 (CJ (sz,l) m).2.2]/\AD w.heap.size 3 d lv (CJ (sz,l) m).1/\EB w.heap.size d F (CJ (sz,l) m).2.1)/\AC w d:=by
  intro e u s U d _ z;rw[U];exact⟨⟨_,_,rfl,AD.nil _ _ _,Pv _ _⟩,n2.st z⟩
 refine Cx rfl ?_;refine iY λleft p=>?_;refine Cq rfl rfl ?_;refine AA (uN (h.up (w':=S)) (by omega)) ?_;rintro v r ⟨⟨rfl,G⟩|⟨rfl,G⟩,e3⟩
 ·refine ite (λL=>?_) (λL=>?_)
  ·refine AJ (cs:=[.int .i64 0,.slice none 0 0]) rfl ?_;refine DI (vs:=[.int .i64 0,.slice none 0 0]) rfl rfl rfl (CO _ _ _ _) λd A z _=>?_;refine AR rfl ?_;exact zero 1 _ stp (by unfold CJ;rw[if_pos G,if_pos L]) d A z
  have p:=p (by omega);refine ite (λh2=>?_) (λh2=>?_)
  ·refine AJ (cs:=[.int .i64 0,.slice none 0 0]) rfl ?_;refine DI (vs:=[.int .i64 0,.slice none 0 0]) rfl rfl rfl (CO _ _ _ _) λd A z _=>?_;refine AR rfl ?_;exact zero 140 _ stp (by unfold CJ;rw[if_pos G,if_neg L,if_pos (by dsimp only;omega)]) d A z
  have x:=QU (show(0:Int)<=m by omega);obtain⟨M,rfl⟩:=x;have x:=QU (show(0:Int)<=left by omega);obtain⟨K,rfl⟩:=x;have hK:K=l.length - M:=by omega
  have C:K<=l.length:=by omega
  have U:CJ (sz,l) (M:Nat)=((l.drop (l.length - M)).reverse,(sz,l.take K),0):=by
   unfold CJ;rw[if_pos G,if_neg L,if_neg (by dsimp only;omega),hK];rfl
  rw[U];refine Ap λb4 d n4 A=>?_;have a6:=n4.b;have a9:=n4.s;have z3:=lz S r;refine Cx rfl ?_;refine eG (some K) none h C (by simp) λV W X=>?_;rw[lQ]at X;refine AA (xX (X.up (w':=d))) ?_;rintro v Y ⟨⟨bs,rfl,b0,D5⟩,e5⟩;have z5:=lz d Y;have C4:=A.mv (w:=Y);have H:(l.drop K).length=l.length - K:=by simp
  have Z:AQ w (.slice V (l.drop K).length W) (l.drop K):=by rw[H];exact X
  have T0:∀i,i<=M->(l.drop (l.length - i)).reverse.length=i:=λi hi=>by rw[List.length_reverse,QR];omega
  refine IS Aa rfl (gf:=417) (first:=[]) (cap:=[.pointer (some ⟨bs,0,none⟩)]) rfl rfl (xG (l:=l.drop K) (a:=V) (c:=W) (bs:=bs) (by simp;omega)) zM1
   (λi u=>i<=M/\∃oa oc,Bk u b4 [.slice oa i oc] 63/\Bk u bs [.slice V (l.drop K).length W] 63/\AD r.heap.size 3 u (.slice oa i oc) (l.drop (l.length - i)).reverse/\AC r u) (λ_ _=>False) ?_ ?_ ?_
   ⟨by omega,none,0,C4,D5.b,by have:=AD.nil (α:=Int) r.heap.size 3 Y;simpa using this,stp⟩ ?_ ?_ ?_
  ·rintro i u u' ⟨hi,oa,oc,f,t,o,E⟩ q;exact⟨hi,oa,oc,f.qt q,t.qt q,o.qt q,E.qt (q.mono (by omega))⟩
  ·rintro _ u u' h;exact h.elim
  ·rintro i u ⟨hi,oa,oc,f,t,o,E⟩;exact⟨Z.up,t⟩
  ·rintro i y u hx ⟨hi,oa,oc,f,t,o,E⟩;have hy:=Yn C hx;obtain⟨b2,rfl,I⟩:=hy;refine⟨Fr.refl _ _,λu1 q=>?_⟩;have f:=f.qt q;have t:=t.qt q;have o:=o.qt q;have E:=E.qt (q.mono (by omega));refine rX f rfl ?_;refine bS (l[l.length - 1 - i]'(by omega)) λb6 w6 e6 _ S6=>?_;refine Ax (u:=r) ⟨rfl,rfl⟩ (o.up (w':=w6)) S6 (by rw[T0 i hi];omega) λv7 w7 O7 f7 s7=>?_;have r1:=(f.mv (w:=w6)).fro o.up f7;have r2:=(t.mv (w:=w6)).fro o.up f7;rw[<-I]at O7;have q7:=O7.shape;rw[T0 (i+1) (by omega)]at q7;obtain⟨a7,c7,rfl⟩:=q7;refine rS r1 [.slice a7 (i+1) c7] (by simp;rfl) λw8 B8 O _=>?_;have s8:AC r w8:=n4.st O;exact⟨⟨by omega,a7,c7,B8,r2.fr O (by omega),O7.frc O r1,s8⟩,λi=>r.heap.size<=i,((Fr.fr e6.e).trans s7.e).trans (O.mono λi _ hi=>by subst hi;omega)⟩
  ·rintro D u ⟨hi,oa,oc,f,t,o,E⟩ hD hd;rw[kR,H]at hi f o;have hM:l.length - K=M:=by omega
   rw[hM]at hi f o;refine dD (λi=>i=Q\/u.heap.size<=i) (Hn 12 0) λu1 e1=>?_;have zu:=lz r u;have zb:=f.lt;refine tX f rfl (by omega) ?_;refine Nf rfl (by omega) (Nf rfl (by omega) ?_);refine gO none (some K) h (by simp) (by simpa using C) λa8 c8 S8=>?_;rw[zQK]at S8;refine AA (Ze (S8.up (w':=u1)) (by rw[Qm];omega)) ?_;rintro v u2 ⟨O2,e2⟩;refine⟨e2.e.fr,?_⟩;have x:=O2.shape;obtain⟨a2,c2,rfl⟩:=x;refine As (cs:=[.int .i64 sz,.slice a2 (l.take K).length c2]) rfl ?_;have C3:=B3.mv (w:=u2);refine rS C3 [.int .i64 sz,.slice a2 (l.take K).length c2] (CO _ _ _ _) λw9 B9 J _=>?_;have s9:AC w w9:=n2.st J;refine⟨J.mono λi _ hi=>.inl hi,?_⟩;have a0:=J.nc _ _ (e2.e.nc _ _ (e1.e.nc _ _ hd rfl) rfl) rfl;have Oo:=((o.up (w':=u2)).frc J C3);have Op:=O2.frc J C3;refine Fg a0 λu' q=>?_;have b3:=B9.qt (q 0 (by omega));refine AR rfl ?_;exact⟨⟨_,_,rfl,(Oo.qt (q 0 (by omega))).older,(EB.mk (Op.qt (q 0 (by omega)))).older⟩,s9.qt (q _ (by have:=lz w r;omega))⟩
  ·rintro c D u h;exact h.elim
 ·refine AJ (cs:=[.int .i64 0,.slice none 0 0]) rfl ?_;refine DI (vs:=[.int .i64 0,.slice none 0 0]) rfl rfl rfl (CO _ _ _ _) λd A z _=>?_;refine AR rfl ?_;exact zero 130 _ stp (by unfold CJ;rw[if_neg G]) d A z
theorem zL7(sz:Int)(l:List Int):(Ee (sz,l)).2.2=(CJ (sz,l) 1).2.2 /\
  ((CJ (sz,l) 1).2.2=0->(CJ (sz,l) 1).1[0]? = some (Ee (sz,l)).1/\(CJ (sz,l) 1).2.1=(Ee (sz,l)).2.1) /\
  ((CJ (sz,l) 1).2.2≠0->Ee (sz,l)=(0,zP,(CJ (sz,l) 1).2.2)):=by
 unfold Ee CJ;by_cases b:RZ sz l
 ·rw[if_pos b,if_pos b,if_neg (by decide)];by_cases c:l=[]
  ·subst c;rw[if_pos (by simp)];simp
  ·have d:0<l.length:=JI.2 c;rw[if_neg (by dsimp only;omega)];have f:=List.getLast?_eq_getElem? (l:=l);rw[Qd (show l.length - 1<l.length by omega)]at f;simp only[f]
   have o:(l.drop (l.length - (1:Int).toNat)).reverse[0]? = some l[l.length - 1]:=by
    have e:l.drop (l.length - (1:Int).toNat)=[l[l.length - 1]]:=by
     rw[show(1:Int).toNat=1 from rfl,JS (by omega),XG (by omega)]
    rw[e];rfl
   refine⟨by first|rfl|trivial,λ_=>⟨o,?_⟩,λh=>absurd rfl h⟩;rw[XO];rfl
 ·rw[if_neg b,if_neg b];simp
theorem zK4{sz:Int}{c:Nat}{l:List Int}(h:AQ w (.slice a n c) l)(L:l.length<=100000):
  Sp PP 333 #[Se sz a n c] w λv w'=>(∃t,v=.tuple #[.int .i64 (Ee (sz,l)).1,t,.int .i64 (Ee (sz,l)).2.2]/\EB w.heap.size w' t (Ee (sz,l)).2.1)/\AC w w':=by
 have d:=h.len;obtain rfl:=d;refine eN ?_;refine BM λb1 w1 n1 B1=>Ap λM F n2 G=>?_;have O:=n1.b;have Q:=n2.b;have S:=n1.s;have U:=n2.s;have d:=zL7 sz l;obtain⟨V,W,X⟩:=d;refine Cq rfl rfl ?_;refine AA (zJQ (m:=1) (h.up (w':=F)) L (by decide)) ?_;rintro v H ⟨⟨lv,t,rfl,y,⟨I,J,rfl,Y⟩⟩,e3⟩;have d:=y.shape;obtain⟨ao,co,rfl⟩:=d;refine Ap λb4 w4 n4 B4=>DI (vs:=[.int .i64 (CJ (sz,l) 1).2.1.1,.slice I (CJ (sz,l) 1).2.1.2.length J]) rfl rfl rfl (CO _ _ _ _) λK Z f5 _=>?_;have s5:AC H K:=n4.st f5;refine ite (λf=>?_) (λf=>?_)
 ·rw[X f];refine AJ (cs:=[.int .i64 0,.slice none 0 0]) rfl ?_;have r:=G.mv (w:=K);refine rS r [.int .i64 0,.slice none 0 0] (CO _ _ _ _) λz B6 o _=>?_;have A:AC w z:=⟨Fr.st Le.e o λi hi=>by omega⟩;refine AR rfl ?_;exact⟨⟨_,rfl,Pv _ _⟩,A⟩
 ·have f:=Q2.1 f;have d:=W f;obtain⟨q1,q2⟩:=d;rw[<-q2];have a0:=n4.b;have z3:=lz F H;refine dD (λi=>i=M) (Hn 7 0) λC e1=>CL (y.sl.up (w':=C)) (x:=(Ee (sz,l)).1) (i:=0) q1 λb7 o7 A7 p=>?_;have AY:=y.lt (λe=>by simp_all);obtain⟨g,E,a1,_⟩:=AY;refine AP (A7.cell0 rfl) (by rw[E]at p;cases p;omega) (MG (B:=Z) rfl rfl (by omega) ?_);have r:=G.mv (w:=C);refine rS r [.int .i64 (CJ (sz,l) 1).2.1.1,.slice I (CJ (sz,l) 1).2.1.2.length J] (CO _ _ _ _) λz B6 o _=>?_;have A:AC w z:=⟨Fr.st Le.e o λi hi=>by omega⟩;refine⟨o,?_⟩;refine AR rfl ?_;rw[V,f];exact⟨⟨_,rfl,(EB.mk ((Y.up (w':=C)).frc o r)).older⟩,A⟩
instance:AK AN:=⟨4,λx=>[.int .i64 x.key.slot,.int .i64 x.key.dir,.int .i64 x.key.v,.int .i64 x.d],λ_=>rfl,by intro x u hu;simp at hu;rcases hu with rfl|rfl|rfl|rfl<;>rfl,by decide⟩
abbrev bO:List TypeId:=[312,422]
theorem FV.wrote{b c most:Nat}{s:TS}(T:FV B w b a c most s)(f:Fr (KK B b a c most) w w'):BQ B bO w w':=by
 obtain⟨h0,R,T,_⟩:=T;refine Fr.mono f λi hi hd=>?_;rcases hd with rfl|hd
 ·exact .mk h0 T.cell.h (by decide)
 ·have d:=T.row;rcases d with⟨_,a,h⟩|d
  ·exact absurd h (hd.2.2 a)
  ·have l:=d.2;rcases l with⟨h,_⟩|⟨g,cap,o,h,hb,p,_⟩
   ·have:=hd.2.1;rw[h]at this;cases this
   ·have e:=hd.2.1;rw[h]at e;simp only[Value.blk]at e;cases e;exact .mk hb p (by decide)
theorem FV.kept{C b c most:Nat}{s:TS}{es:List TypeId}(T:FV B w b a c most s)(f:BQ C es w w')(d:312∉es)(e:422∉es):FV B w' b a c most s:=by
 obtain⟨h0,R,T,r⟩:=T;exact⟨h0,R,⟨T.cell.kept f d,T.row.kept f e,T.len,T.tab,T.bnd,T.may,T.zero⟩,r⟩
theorem yM{b c most:Nat}{s:TS}{k:Al}{n:Int}(T:FV B w b a c most s):
  Sp PP 334 #[.pointer (some ⟨b,0,none⟩),agg k,.int .i64 n] w λv w'=>v=.int .i64 (DR most s k n).2/\FV B w' b a c most (DR most s k n).1/\BQ B bO w w':=
 (Pi T).mono λ_ _ ⟨d,e,f⟩=>⟨d,e,T.wrote f⟩
theorem oH{x:AN}:Sp PP 332 #[agg x] w λv w'=>v=.int .i64 (if Dz x then 0 else 1)/\AC w w':=by
 refine eN ?_;refine BM λb w1 n1 d=>AA (pW (most:=1) (w:=w1)) ?_;rintro v y ⟨⟨h,_⟩|⟨N,z,ta,tc,A,_,_,rfl,T⟩,C⟩
 ·omega
 have f:N=1:=by omega
 obtain rfl:=f;refine iT rfl (rG d x.key (AA (yM (k:=x.key) (n:=0) T) ?_));rintro v l ⟨rfl,E,o⟩;have F:AC w1 l:=⟨BQ.st Le.e o (Qe _)⟩
 have p:(DR 1 aX x.key 0).2=if GW x.key then 0 else 1:=by
  unfold DR;split
  ·rfl
  ·rfl
 rw[p];refine rX d rfl (ite (λr=>?_) (λr=>?_))
 ·rw[if_neg (λh:Dz x=>by have:=h.2.1;omega)];exact⟨rfl,stp⟩
 refine rX d rfl (ite (λt=>?_) (λt=>?_))
 ·rw[if_neg (λh:Dz x=>by have:=h.2.2;omega)];exact⟨rfl,stp⟩
 ·refine⟨?_,stp⟩;by_cases c:GW x.key
  ·rw[if_pos c,if_pos ⟨c,by omega,by omega⟩];rfl
  ·rw[if_neg c,if_neg (λh:Dz x=>c h.1)];rfl
theorem zIQ{d:Value}{x:AN}:Sp PP 331 #[d,agg x] w λv w'=>v=.int .i64 (if Dz x then 150 else 1)/\AC w w':=by
 refine eN ?_;refine BM λb w1 n1 e=>rG e x ?_;have M:=oH (x:=x) (w:=w1);by_cases c:Dz x
 ·rw[if_pos c]at M ⊢;refine AA M ?_;rintro v f ⟨rfl,l⟩;refine iF (· rfl) ?_;exact⟨rfl,stp⟩
 ·rw[if_neg c]at M ⊢;refine AA M ?_;rintro v f ⟨rfl,l⟩;refine iT (by simp) ?_;exact⟨rfl,stp⟩
structure Ep (B:Nat) (w:World) (b gs size bt:Nat) (ta:OA) (tc:Nat) (ts:TS) (fa:OA) (fc:Nat) (fr:List Int) (sc:Nat) (st:List AN) (bm:Nat) (m:List (Int×Value)) (ch:Int->List Int):Prop where
 lo:B<=b/\B<=bm/\B<=gs
 cell:Bk w b [.pointer (some ⟨bt,0,none⟩),.int .i64 size,.slice fa fr.length fc,.slice (some ⟨gs,0,none⟩) size sc,.map (some bm)] 236
 tab:FV B w bt ta tc size ts
 free:Bh 3 w (.slice fa fr.length fc) fr
 sts:AD B 341 w (.slice (some ⟨gs,0,none⟩) size sc) st
 map:BO PP 3 w bm m
 rows:∀s v,(s,v)∈m->AD B 3 w v (ch s)/\ch s≠[]
 empt:∀s,s∉m.map (·.1)->ch s=[]
 apart:∀s v s' v',(s,v)∈m->(s',v')∈m->s≠s'->∀g,Value.blk v=some g->Value.blk v'≠some g
 apart2:fr≠[]->∀s v,(s,v)∈m->∀g,Value.blk v=some g->Value.blk (.slice fa fr.length fc)≠some g
structure PI (R:Nat->Prop) (b gs size bt:Nat) (ta:OA) (tc:Nat) (fa:OA) (fc:Nat) (fr:List Int) (bm:Nat) (m:List (Int×Value)):Prop where
 b:R b
 bt:R bt
 ta:∀g,Value.blk (.slice ta (2*size) tc)=some g->R g
 gs:R gs
 bm:R bm
 fr:fr≠[]->∀g,Value.blk (.slice fa fr.length fc)=some g->R g
 rows:∀s v,(s,v)∈m->∀g,Value.blk v=some g->R g
def gR (R:Nat->Prop) (w w':World):Nat->Prop:=λi=>R i\/(w.heap.size<=i/\i<w'.heap.size)
abbrev gP (R:Nat->Prop) (w:World):Nat->Prop:=λi=>R i\/w.heap.size<=i
def Ci (R:Nat->Prop) (B:Nat) (w:World) (b gs size:Nat) (L:List AN):Prop:=
 ∃bt ta tc ts fa fc fr sc st bm m ch,Ep B w b gs size bt ta tc ts fa fc fr sc st bm m ch/\GU size ts fr st/\Kj fr st L/\Wg fr st ch/\PI R b gs size bt ta tc fa fc fr bm m
abbrev psE:List TypeId:=[236,312,422,3,Fh]
abbrev U2 (gs B:Nat) (w w':World):Prop:=Cm (λi=>i=gs) B psE w w'
section
variable {B C:Nat} {w w':World} {b gs size bt:Nat} {ta:OA} {tc:Nat} {ts:TS} {fa:OA} {fc:Nat} {fr:List Int} {sc:Nat} {st:List AN} {bm:Nat} {m:List (Int×Value)} {ch:Int->List Int} {es:List TypeId} {L:List AN}
theorem Ep.up[Le w w'](h:Ep B w b gs size bt ta tc ts fa fc fr sc st bm m ch):Ep B w' b gs size bt ta tc ts fa fc fr sc st bm m ch:=
 ⟨h.lo,h.cell.mv,h.tab.up,h.free.up,h.sts.up,h.map.up,λs v c=>⟨(h.rows s v c).1.up,(h.rows s v c).2⟩,h.empt,h.apart,h.apart2⟩
theorem Ci.up[Le w w'](h:Ci R B w b gs size L):Ci R B w' b gs size L:=by
 obtain⟨bt,ta,tc,ts,fa,fc,fr,sc,st,bm,m,ch,h,r⟩:=h;exact⟨bt,ta,tc,ts,fa,fc,fr,sc,st,bm,m,ch,h.up,r⟩
theorem Ep.look(h:Ep B w b gs size bt ta tc ts fa fc fr sc st bm m ch)(s:Int):AD B 3 w ((Au m s).getD (.slice none 0 0)) (ch s) /\
  (∀g,Value.blk ((Au m s).getD (.slice none 0 0))=some g->∃v,(s,v)∈m/\Value.blk v=some g):=by
 cases c:Au m s with
 |none =>
  have e:=h.empt s (dY.1 c);rw[e];exact⟨AD.nil _ _ _,λg c=>by cases c⟩
 |some v=>exact⟨(h.rows s v (SJ c)).1,λg d=>⟨v,SJ c,d⟩⟩
end
theorem Ci.lt{b c size:Nat}{L:List AN}(h:Ci R B w b c size L):B<=b/\b<w.heap.size/\B<=c/\L.length<=size/\CE L/\1<=size/\size<=400/\R b:=by
 obtain⟨e,ta,tc,ts,f,l,fr,o,st,p,m,r,h,T,M,C,Z⟩:=h;have t:=T.len M;have v:=T.cnt;have d:=T.ok;exact⟨h.lo.1,h.cell.lt,h.lo.2.2,by omega,M.ris,by have:=d.1;omega,by have:=d.2.1;omega,Z.b⟩
theorem iG{α:Type}[AK α]{e:TypeId}{v:Value}{l:List α}(h:AD B e w v l)(c:l≠[]){g:Nat}(b:Value.blk v=some g):g<w.heap.size:=by
 have d:=h.lt c;obtain⟨p,f,_,o⟩:=d;rw[f]at b;cases b;exact o
theorem Ci.mono{R':Nat->Prop}{b p size:Nat}{L:List AN}(h:Ci R B w b p size L)(d:∀i,i<w.heap.size->R i->R' i):Ci R' B w b p size L:=by
 obtain⟨x,ta,tc,ts,y,z,fr,A,st,E,m,F,h,T,M,C,Z⟩:=h;have G:st≠[]:=by intro e;have:=T.stl;rw[e]at this;have:=T.ok.1;simp at *;omega
 have H:=h.tab;obtain⟨_,J,f,_⟩:=H;refine⟨x,ta,tc,ts,y,z,fr,A,st,E,m,F,h,T,M,C,d _ h.cell.lt Z.b,d _ f.cell.lt Z.bt,λg c=>d _ ?_ (Z.ta g c),d _ (iG h.sts G rfl) Z.gs,d _ h.map.lt Z.bm,λr g c=>d _ ?_ (Z.fr r g c),λs v o g c=>d _ (iG (h.rows s v o).1 (h.rows s v o).2 c) (Z.rows s v o g c)⟩
 ·refine iG f.row (λe=>?_) c;have l:=f.len;have t:=f.bnd;rw[e]at l;simp at l;omega
 ·have I:=h.free.blkN r;obtain⟨K,l,t⟩:=I;rw[l]at c;cases c;exact t
theorem Ci.end{b c size:Nat}{L:List AN}(h:Ci (gP R w) B w' b c size L):Ci (gR R w w') B w' b c size L:=
 h.mono λi hi d=>d.imp id λh=>⟨h,hi⟩
theorem Ci.gr{b c size:Nat}{L:List AN}(h:Ci R B w' b c size L):Ci (gR R w w') B w' b c size L:=h.mono λ_ _ d=>.inl d
theorem Ci.fr{b l size:Nat}{L:List AN}(h:Ci R B w b l size L)(f:Fr D w w')(hd:∀i,R i->¬D i):Ci R B w' b l size L:=by
 obtain⟨o,ta,tc,ts,p,r,fr,t,st,x,m,y,h,T,M,C,Z⟩:=h;have z:=h.tab;obtain⟨h0,A,c,E⟩:=z
 exact⟨o,ta,tc,ts,p,r,fr,t,st,x,m,y,⟨h.lo,h.cell.fr f (hd _ Z.b),⟨h0,A,⟨c.cell.fr f (hd _ Z.bt),c.row.fr f λg _ d=>hd _ (Z.ta g d),c.len,c.tab,c.bnd,c.may,c.zero⟩,E⟩,
  h.free.frN f λg F d=>hd _ (Z.fr F g d),h.sts.fr f λg _ d=>by cases d;exact hd _ Z.gs,h.map.fr f (hd _ Z.bm),λs v e=>⟨(h.rows s v e).1.fr f λg _ d=>hd _ (Z.rows s v e g d),(h.rows s v e).2⟩,h.empt,h.apart,h.apart2⟩,T,M,C,Z⟩
theorem PI.tab{b d size c:Nat}{ta:OA}{tc:Nat}{e:OA}{l:Nat}{fr:List Int}{o:Nat}{m:List (Int×Value)}(Z:PI R b d size c ta tc e l fr o m)(f:Fr (KK B c ta tc size) w w'):Fr R w w':=
 f.mono λi _ hi=>hi.elim (λh=>h ▸ Z.bt) λh=>Z.ta i h.2.1
theorem PI.look{b d size e:Nat}{ta:OA}{tc:Nat}{f:OA}{l:Nat}{fr:List Int}{o:Nat}{m:List (Int×Value)}(Z:PI R b d size e ta tc f l fr o m){s:Int}{g:Nat}(h:Value.blk ((Au m s).getD (.slice none 0 0))=some g):R g:=by
 cases c:Au m s with
 |none=>rw[c]at h;cases h
 |some v=>rw[c]at h;exact Z.rows s v (SJ c) g h
theorem PI.up{R':Nat->Prop}{b d size e:Nat}{ta:OA}{tc:Nat}{f:OA}{l:Nat}{fr:List Int}{o:Nat}{m:List (Int×Value)}(Z:PI R b d size e ta tc f l fr o m)(h:∀i,R i->R' i):PI R' b d size e ta tc f l fr o m:=
 ⟨h _ Z.b,h _ Z.bt,λg c=>h _ (Z.ta g c),h _ Z.gs,h _ Z.bm,λp g c=>h _ (Z.fr p g c),λs v r g c=>h _ (Z.rows s v r g c)⟩
theorem Fr.gP(f:Fr (gP R w) w w'):Fr R w w':=Fr.mono f λi hi h=>h.elim id λh=>by omega
theorem zQl{n:Int}(h:¬(n<1\/400<n)):Ld n=((n,BR n.toNat),0)/\RZ n (BR n.toNat)/\(BR n.toNat).length=n.toNat/\∀p:Nat,(p:Int)<n->(p:Int)∈BR n.toNat:=by
 refine⟨by unfold Ld;rw[if_neg h],⟨by omega,by omega,λx c=>?_,?_⟩,dZ _,λp d=>?_⟩
 ·unfold BR at c;simp only[Qq,List.mem_reverse,Q0]at c;obtain⟨k,f,rfl⟩:=c;omega
 ·unfold BR;rw[Qx,QY];rw[List.pairwise_reverse];have:=Xj (n:=n.toNat);rw[Qx]at this;exact this.imp λ{a b} h e=>h (by omega)
 ·unfold BR;simp only[Qq,List.mem_reverse,Q0];exact⟨p,by omega,rfl⟩
theorem zLr{size:Int}:Sp PP 98 #[.int .i64 size] w λv w' =>
  ((size<1\/400<size)/\v=.tuple #[.pointer none,.int .i64 1]\/∃(N b c:Nat),size=(N:Int)/\1<=N/\N<=400/\v=.tuple #[.pointer (some ⟨b,0,none⟩),.int .i64 0]/\Ci (λi=>w.heap.size<=i/\i<w'.heap.size) w.heap.size w' b c N [])/\AC w w':=by
 refine eN ?_;refine AA (zL1 (size:=size) (w:=w)) ?_;rintro v w1 ⟨⟨pv,rfl,t,z,rfl,O1⟩,e1⟩;refine Ap λb2 w2 n2 z2=>rS z2 [.int .i64 (Ld size).1.1,.slice t (Ld size).1.2.length z] (CO _ _ _ _) λE B3 f3 _=>?_;have s3:AC w1 E:=n2.st f3;clear z2 f3;by_cases K:size<1\/400<size
 ·have Q:(Ld size).2=1:=by unfold Ld;rw[if_pos K]
  rw[Q];refine iT (by first|omega|decide|(dsimp only<;>omega)) ?_;exact⟨.inl ⟨K,rfl⟩,stp⟩
 have S:=zQl K;obtain⟨Q,U,a0,l⟩:=S;rw[Q]at O1 B3 ⊢;refine iF (· rfl) (AA (pW (most:=size) (w:=E)) ?_);rintro v w4 ⟨⟨h,_⟩|⟨N,M,ta,tc,rfl,V,W,rfl,T⟩,e4⟩
 ·exact absurd h K
 refine iF (· rfl) ?_
 have fin:∀(u:World) (c F b d:Nat),AC w u->Ci (λi=>w.heap.size<=i) w.heap.size u b c N []->((((N:Int)<1\/400<(N:Int))/\Value.tuple #[.pointer (some ⟨b,0,none⟩),.int .i64 0]=.tuple #[.pointer none,.int .i64 1]\/∃(O b' X:Nat),(N:Int)=(O:Int)/\1<=O/\O<=400/\Value.tuple #[.pointer (some ⟨b,0,none⟩),.int .i64 0]=.tuple #[.pointer (some ⟨b',0,none⟩),.int .i64 0]/\Ci (λi=>w.heap.size<=i/\i<u.heap.size) w.heap.size u b' X O [])/\AC w u):=
  λu c F b d s P=>⟨.inr ⟨N,b,c,rfl,V,W,rfl,P.mono λi f o=>⟨o,f⟩⟩,s⟩
 have O4:=O1.up (w':=w4)
 have T0:GU N aX (BR N) (List.replicate N LK):=by
  refine⟨U,by simp,λk n=>Iff.intro (λh=>(by cases h)) (λ⟨p,_,f,x,o,_⟩=>absurd (l p ?_) f),?_⟩
  ·have:=(Qy.1 o).1;simp at this;omega
  ·show 0+(BR N).length=N;rw[dZ];omega
 have M0:Kj (BR N) (List.replicate N LK) []:=⟨.nil,λx=>Iff.intro (λh=>(by cases h)) (λ⟨p,f,o⟩=>absurd (l p (by have:=(Qy.1 o).1;simp at this;omega)) f)⟩;have C0:Wg (BR N) (List.replicate N LK) (λ_=>[]):=λs=>⟨by simp,λn=>Iff.intro (λh=>(by cases h)) (λ⟨p,_,f,x,o,_⟩=>absurd (l p (by have:=(Qy.1 o).1;simp at this;omega)) f)⟩
 have mk:∀(u:World) (c F b d:Nat),w.heap.size<=b->w.heap.size<=d->w.heap.size<=c->Le w4 u->Bk u b [.pointer (some ⟨M,0,none⟩),.int .i64 N,.slice t (BR N).length z,.slice (some ⟨c,0,none⟩) N F,.map (some d)] 236->AD w.heap.size 341 u (.slice (some ⟨c,0,none⟩) N F) (List.replicate N LK)->BO PP 3 u d ([]:List (Int×Value))->Ci (λi=>w.heap.size<=i) w.heap.size u b c N []:=by
  intro u c F b d f o h3 L CB OS MB;refine⟨M,ta,tc,aX,t,z,BR N,F,List.replicate N LK,d,[],λ_=>[],⟨⟨f,o,h3⟩,CB,?_,(O4.up (w':=u)).y,OS,MB,(λs v h=>(by cases h)),λ_ _=>rfl,(λs v s' v' h=>(by cases h)),(λ_ s v h=>(by cases h))⟩,T0,M0,C0,f,Qw (lz w E) T.1,λg A=>?_,h3,o,λhn g A=>?_,(λs v h=>(by cases h))⟩
  rotate_left
  ·obtain⟨_,Rw,Y,_⟩:=T;obtain⟨g',q1,q2,_⟩:=Y.row.lt (λe=>by have f:=Y.len;have o:=Y.bnd;rw[e]at f;simp at f;omega);rw[q1]at A;cases A;exact Qw (lz w E) q2
  ·have S:=O4.lt hn;obtain⟨g',q1,q2,_⟩:=S;have q3:Value.blk (.slice t (BR N).length z)=some g':=q1;rw[q3]at A;cases A;exact q2
  have:=T.up (w':=u);obtain⟨g0,R,H,r⟩:=this;exact⟨Qw (lz w E) g0,R,⟨H.cell,H.row.mono (lz w E),H.len,H.tab,H.bnd,H.may,H.zero⟩,r⟩
 have Z:(Value.agg #[Value.int IntKind.i64 0,Value.int IntKind.i64 0,Value.int IntKind.i64 0,Value.int IntKind.i64 0]).cells.toList=enc LK:=rfl;refine dT (λ_=>False) (oL [0,1,2] (.two 3 (oL [4,5,6,7,8] .nil) 4 (oL [3,5,6,7,8] .nil))) λu5 e5=>MG (ds:=[.int .i64 (N:Nat),.slice t (BR N).length z]) (B:=B3) rfl rfl nf ?_;refine⟨?_,?_⟩
 ·refine Id LK rfl rfl (by omega) λc u6 O6 s6 A=>⟨s6.e,?_⟩;refine SX (kt:=3) (κ:=Int) rfl λd u7 G M7=>⟨G.e,?_⟩;refine As (cs:=[.pointer (some ⟨M,0,none⟩),.int .i64 (N:Nat),.slice t (BR N).length z,.slice (some ⟨c,0,none⟩) N N,.map (some d)]) rfl (BM λb I J B8=>⟨J.e,?_⟩);have C:w.heap.size<=u5.heap.size:=Le.size;refine fin I c N b d stp (mk I c N b d J.lo G.lo (by omega) inferInstance B8 (O6.up.mono C) M7.up)
 ·refine SX (kt:=3) (κ:=Int) rfl λd u7 G M7=>⟨G.e,?_⟩;refine Id LK rfl rfl (by omega) λc u6 O6 s6 A=>⟨s6.e,?_⟩;refine As (cs:=[.pointer (some ⟨M,0,none⟩),.int .i64 (N:Nat),.slice t (BR N).length z,.slice (some ⟨c,0,none⟩) N N,.map (some d)]) rfl (BM λb I J B8=>⟨J.e,?_⟩);have C:w.heap.size<=u7.heap.size:=Le.size;refine fin I c N b d stp (mk I c N b d J.lo G.lo (by omega) inferInstance B8 (O6.up.mono C) M7.up)
theorem jL{κ:Type}[DecidableEq κ]{m:List (κ×Value)}(b:(m.map (·.1)).Nodup){k:κ}{v:Value}:(k,v)∈m↔Au m k=some v:=⟨TQ b,SJ⟩
theorem KI{κ:Type}[DecidableEq κ]{m:List (κ×Value)}(c:(m.map (·.1)).Nodup){k s:κ}{v b:Value}:(s,v)∈CW k b m↔(s=k/\v=b)\/(s≠k/\(s,v)∈m):=by
 rw[jL (Wl k b m c),bA,jL c];by_cases e:s=k
 ·rw[if_pos e];simp[e];exact eq_comm
 ·rw[if_neg e];simp[e]
theorem W6{κ:Type}[DecidableEq κ]{m:List (κ×Value)}(b:(m.map (·.1)).Nodup){k s:κ}{v:Value}:(s,v)∈GL k m↔s≠k/\(s,v)∈m:=by simp_all[jL,kL,rM]
theorem BO.frO{α:Type}[AK α]{kt:TypeId}{κ:Type}[DecidableEq κ][Em PP kt κ]{C:Nat}{e:TypeId}{v:Value}{l:List α}{d:Nat}{m:List (κ×Value)}(h:BO PP kt w d m)(O:AD C e w v l)(f:Fr (AV B v) w w'):BO PP kt w' d m:=by
 refine h.fr f λhd=>?_;rcases O with⟨_,a,e⟩|p
 ·exact hd.2.2 a e
 ·have r:=p.2;rcases r with⟨e,_⟩|⟨g,cap,t,e,_,x,_⟩
  ·rw[e]at hd;cases hd.2.1
  ·have b:=hd.2.1;rw[e]at b;simp only[Value.blk]at b;cases b;obtain⟨⟨es,c,o,_⟩,_⟩:=h;rw[x]at o;cases o
theorem Ep.chain{b gs size bt:Nat}{ta:OA}{tc:Nat}{ts:TS}{U:OA}{V:Nat}{fr:List Int}{sc:Nat}{st:List AN}{I:Nat}{m:List (Int×Value)}{ch:Int->List Int}{s n:Int}{G:Value}
  (h:Ep B w b gs size bt ta tc ts U V fr sc st I m ch){J:World}(O:AD B 3 J G (ch s++[n]))(W:Fr (AV B ((Au m s).getD (.slice none 0 0))) w J)
  (p:Value.blk G=Value.blk ((Au m s).getD (.slice none 0 0))\/Value.blk G=some w.heap.size)(M:BO PP 3 u I (CW s G m))(f2:Fr (λi=>i=I) J u):
  Ep B u b gs size bt ta tc ts U V fr sc st I (CW s G m) (λs'=>if s'=s then ch s'++[n] else ch s')/\BQ B [3,Fh] w u/\∀R,PI R b gs size bt ta tc U V fr I m->Fr R w u/\∀R',(∀i,R i->R' i)->R' w.heap.size->PI R' b gs size bt ta tc U V fr I (CW s G m):=by
 have d:=h.look s;obtain⟨X,z⟩:=d;have y:=h.map.2;have F1:BQ B [3,Fh] w J:=X.wrote W (Qe _) (by decide);have M1:BO PP 3 J I m:=h.map.frO X W;have F2:BQ B [3,Fh] J u:=M1.wrote f2 h.lo.2.1 (by decide);have K:BQ B [Fh] J u:=M1.wrote f2 h.lo.2.1 (by decide);have FF:=F1.trans F2
 have lt:∀l r,(l,r)∈m->∃g,Value.blk r=some g/\g<w.heap.size:=λl r A=>by
  have d:=h.rows l r A;obtain⟨L,c⟩:=d;have d:=L.lt c;obtain⟨g,Q,_,S⟩:=d;exact⟨g,Q,S⟩
 have nd:∀l r,(l,r)∈m->l≠s->∀g,Value.blk r=some g->¬AV B ((Au m s).getD (.slice none 0 0)) g:=λl r A c g f hd=>by
  have d:=z g hd.2.1;obtain⟨E,t,v⟩:=d;exact h.apart l r s E A t c g f v
 have free:Bh 3 u (.slice U fr.length V) fr:=by
  refine(h.free.frN W λg c f hd=>?_).kept K (by decide);have d:=z g hd.2.1;obtain⟨E,t,v⟩:=d;exact h.apart2 c s E t g v f
 refine⟨⟨h.lo,h.cell.kept FF (by decide),h.tab.kept FF (by decide) (by decide),free,h.sts.kept FF (by decide),M,λl r A=>?_,λl Y=>?_,λl r s3 v3 S h3 c g f x=>?_,λc l r S g f=>?_⟩,FF,λR Z=>⟨(W.mono λi _ hi=>Z.look hi.2.1).trans (f2.mono λi _ hi=>hi ▸ Z.bm),λR' H hn=>⟨H _ Z.b,H _ Z.bt,λg f=>H _ (Z.ta g f),H _ Z.gs,H _ Z.bm,λc g f=>H _ (Z.fr c g f),λl r S g f=>?_⟩⟩⟩
 rotate_left 4
 ·have d:=(KI y).1 S;rcases d with⟨rfl,rfl⟩|⟨_,o⟩
  ·rcases p with p|p
   ·rw[p]at f;exact H _ (Z.look f)
   ·rw[p]at f;cases f;exact hn
  ·exact H _ (Z.rows l r o g f)
 ·have d:=(KI y).1 A;rcases d with⟨rfl,rfl⟩|⟨c,o⟩
  ·rw[if_pos rfl];exact⟨O.kept K (by decide),by simp⟩
  ·rw[if_neg c];have d:=h.rows l r o;obtain⟨L,C⟩:=d;exact⟨(L.fr W λg _ f=>nd l r o c g f).kept K (by decide),C⟩
 ·have a1:l≠s:=by rintro rfl;exact Y ((EY l G m l).2 (.inl rfl))
  rw[if_neg a1];exact h.empt l λhm=>Y ((EY s G m l).2 (.inr hm))
 ·have d:=(KI y).1 S;rcases d with⟨rfl,rfl⟩|⟨C,o⟩
  ·have d:=(KI y).1 h3;rcases d with⟨e,_⟩|⟨a0,F⟩
   ·exact c e.symm
   ·rcases p with p|p
    ·rw[p]at f;have d:=z g f;obtain⟨E,t,v⟩:=d;exact h.apart _ E s3 v3 t F c g v x
    ·rw[p]at f;cases f;have d:=lt s3 v3 F;obtain⟨g',Q,h4⟩:=d;rw[Q]at x;cases x;omega
  ·have d:=(KI y).1 h3;rcases d with⟨rfl,rfl⟩|⟨a0,F⟩
   ·rcases p with p|p
    ·rw[p]at x;have d:=z g x;obtain⟨E,t,v⟩:=d;exact h.apart l r _ E o t c g f v
    ·rw[p]at x;cases x;have d:=lt l r o;obtain⟨g',Q,h4⟩:=d;rw[Q]at f;cases f;omega
   ·exact h.apart l r s3 v3 o F c g f x
 ·have d:=(KI y).1 S;rcases d with⟨rfl,rfl⟩|⟨C,o⟩
  ·rcases p with p|p
   ·rw[p]at f;have d:=z g f;obtain⟨E,t,v⟩:=d;exact h.apart2 c _ E t g v
   ·rw[p]at f;cases f;intro hf;have d:=h.free.blkN c;obtain⟨g',Q,h4⟩:=d;rw[Q]at hf;cases hf;omega
  ·exact h.apart2 c l r o g f
theorem zLs{b o size:Nat}{L:List AN}{x:AN}(S:Ci R B w b o size L):
  Sp PP 251 #[.pointer (some ⟨b,0,none⟩),agg x] w λv w'=>v=.int .i64 (EP size L x).2/\Ci (gR R w w') B w' b o size (EP size L x).1/\U2 o B w w'/\Fr R w w':=by
 have SS:=S;have AY:=S.lt;obtain⟨d2,g3,g4,g6,f6,g7,g8,_⟩:=AY;obtain⟨bt,ta,tc,ts,fa,fc,fr,sc,st,U,m,ch,H,T,M,C,Z⟩:=S;have g9:=T.len M;have f8:=T.cnt;refine eN ?_;refine BM λbx w1 n1 B1=>?_;have d3:=n1.lo (u:=w);refine Dy ?_;have H1:=H.up (w':=w1);refine dQ 12 λw2 e2=>tX H1.cell rfl nf (tG B1 x.key nf ?_);have H2:=H1.up (w':=w2);refine AA (WU (k:=x.key) H2.tab) ?_;rintro v w3 ⟨rfl,e3⟩;refine⟨e3.e,?_⟩;have f:=T.get M x.key;rcases f with⟨p,y,hm,hp,hy,h0,O⟩|⟨hm,O⟩
 ·
  have r:Hc ts x.key=((p:Int),true):=by unfold Hc;rw[hm]
  rw[r];refine rG B1 x (AA (zIQ (x:=x)) ?_);rintro v w4 ⟨rfl,e4⟩
  have E:EP size L x=(L,if Dz x then 150 else 1):=by
   unfold EP;split
   ·rw[O]
   ·rfl
  rw[E];exact⟨rfl,SS.up.gr,Cm.ext Le.e,Fr.fr Le.e⟩
 have r:Hc ts x.key=(0,false):=by unfold Hc;rw[hm]
 rw[r];refine rG B1 x ?_;have MY:=oH (x:=x) (w:=w3);by_cases l:Dz x
 case neg =>
  rw[if_neg l]at MY;refine AA MY ?_;rintro v w4 ⟨rfl,e4⟩;have E:EP size L x=(L,1):=by unfold EP;rw[if_neg l]
  rw[E];refine iT (by simp) ?_;exact⟨rfl,SS.up.gr,Cm.ext Le.e,Fr.fr Le.e⟩
 rw[if_pos l]at MY;refine AA MY ?_;rintro v w4 ⟨rfl,e4⟩;refine iF (· rfl) ?_;have H4:=H.up (w':=w4);refine Cq (ds:=[.int .i64 (size:Nat),.slice fa fr.length fc]) (B:=H4.cell) rfl rfl ?_;have g0:fr.length<=size:=by omega
 refine AA (zK4 (sz:=(size:Int)) H4.free.sl (by omega)) ?_;rintro v w5 ⟨⟨pv,rfl,a5,c5,rfl,O5⟩,e5⟩;refine Ap λb6 w6 n6 z6=>rS z6 [.int .i64 (Ee ((size:Int),fr)).2.1.1,.slice a5 (Ee ((size:Int),fr)).2.1.2.length c5] (CO _ _ _ _) λw7 B7 f7 _=>?_;have s7:AC w5 w7:=n6.st f7;clear z6 f7;by_cases a4:fr=[]
 ·
  have ht:Ee ((size:Int),fr)=(0,zP,140):=by unfold Ee;rw[if_pos T.ok,a4];rfl
  rw[ht]
  have E:EP size L x=(L,140):=by
   unfold EP;rw[if_pos l,O];simp only;rw[if_pos (by simp_all)]
  rw[E];refine iT (by simp) ?_;exact⟨rfl,SS.up.gr,Cm.ext Le.e,Fr.fr Le.e⟩
 have f:∃c n,fr=c++[n]:=⟨fr.dropLast,fr.getLast a4,(Xc a4).symm⟩;obtain⟨c,n,c0⟩:=f;subst c0;have hn:=T.ok.2.2.1 n (by simp);have f:=QU hn.1;obtain⟨p,rfl⟩:=f
 have ht:Ee ((size:Int),c++[(p:Int)])=((p:Int),((size:Int),c),0):=by
  unfold Ee;rw[if_pos T.ok];rw[List.getLast?_concat];show((p:Int),((size:Int),(c++[(p:Int)]).dropLast),(0:Int))=_;rw[List.dropLast_concat]
 rw[ht]at O5 B7 ⊢;refine iF (· rfl) ?_;have c1:=T.put M C l.1 hm;obtain⟨d4,T',M',C'⟩:=c1;have h6:(c++[(p:Int)]).length=c.length+1:=by simp
 have E:EP size L x=(HP x L,0):=by
  unfold EP;rw[if_pos l,O];simp only;rw[if_neg (by omega)]
 rw[E];have H7:=H.up (w':=w7)
 have h7:o<w.heap.size:=by
  have:=H.sts.lt (by intro h;have:=T.stl;rw[h]at this;simp at this;omega);obtain⟨g,h1,_,h2⟩:=this;have h8:o=g:=QL h1;omega
 have h9:=n6.lo (u:=w);refine dD (λi=>i≠b/\i≠bx) (Hn 9 0) λw8 e8=>tX H7.cell rfl (λh=>h.1 rfl) (tG B1 x.key (λh=>h.2 rfl) ?_);have H8:=H7.up (w':=w8);have PT:=Pi (k:=x.key) (n:=(p:Int)) H8.tab;rw[d4]at PT;refine AA PT ?_;rintro v w9 ⟨rfl,T9,c2⟩;have f9:=H8.tab.wrote c2;have G9:Fr R w w9:=(Fr.fr Le.e:Fr R w w8).trans (Z.tab c2);have B8:=B1.mv (w:=w8);refine⟨Fr.mono f9 λi _ hi=>⟨by rintro rfl;exact absurd (hi.cells H8.cell.h) (by decide),by rintro rfl;exact absurd (hi.cells B8.h) (by decide)⟩,?_⟩;refine iF (· rfl) ?_;have F9:U2 o B w w9:=(Cm.ext Le.e).trans (f9.x (Qe _) (by decide));have B9:=B8.kept f9 (by decide);have P9:=(B7.mv (w:=w8)).kept f9 (by decide);have C9:=H8.cell.kept f9 (by decide);have S9:=H8.sts.kept f9 (by decide);have R9:Bh 3 w9 (.slice a5 c.length c5) c:=(O5.y.up (w':=w8)).kept f9 (by decide);refine dT (λi=>i=b\/AV B (.slice (some ⟨o,0,none⟩) size sc) i) (oL [0,1,2,3,5,6,7] (.lone 4 (oL [8,9,10,11,12] .nil))) λt c3=>?_;have d5:¬(b6=b\/AV B (.slice (some ⟨o,0,none⟩) size sc) b6):=λh=>h.elim (λh=>by omega) (λh=>by have:=QL h.2.1;simp only at this;omega);have c4:¬(bx=b\/AV B (.slice (some ⟨o,0,none⟩) size sc) bx):=λh=>h.elim (λh=>by omega) (λh=>by have:=QL h.2.1;simp only at this;omega);refine MG (ds:=[.int .i64 (size:Nat),.slice a5 c.length c5]) (B:=P9) rfl rfl d5 (tG B9 x c4 (rX C9 rfl ⟨Fr.refl _ _,?_⟩));have c6:=C9.mv (w:=t);refine rS c6 [.int .i64 (size:Nat),.slice a5 c.length c5] (CO _ _ _ _) λa6 c7 a7 _=>⟨a7.mono λi _ hi=>.inl hi,?_⟩;have F:BQ B [236] t a6:=c6.wrote a7 d2 (by decide);have Q:=(S9.up (w':=t)).kept F (by decide);have c8:p<st.length:=by rw[T.stl];omega
 refine ET rfl Q (x:=st[p]) (by simp[c8]) λg r _ A=>CZ rfl x Q r c8 rfl λG d6 I _=>⟨I.mono λi _ hi=>.inr hi,?_⟩;have i0:g=o:=(QL r).symm;have d7:Fr (λi=>i=o) a6 G:=Fr.mono I λi _ hi=>(QL hi.2.1).symm;have d8:U2 o B w G:=(((F9.trans (Cm.ext c3.e)).trans (F.x (Qe _) (by decide))).trans (Q.wroteX I λg r=>(QL r).symm));have a2:Fr R w G:=((G9.trans (Fr.fr c3.e)).trans (a7.mono λi _ hi=>hi ▸ Z.b)).trans (d7.mono λi _ hi=>hi ▸ Z.gs);have d9:¬AV B (.slice (some ⟨o,0,none⟩) size sc) b:=c7.notOwn Q
 have z:Ep B G b o size bt ta tc (DR size ts x.key p).1 a5 c5 c sc (st.set p x) U m ch:=by
  have e0:=(T9.up (w':=t)).kept F (by decide) (by decide);have e1:FV B G bt ta tc size (DR size ts x.key p).1:=e0.kept (Q.wrote I (Qe _) (show 341∈[341] by decide)) (by decide) (by decide);have a8:BQ B [341] a6 G:=Q.wrote I (Qe _) (by decide);refine⟨H.lo,c7.fr I d9,e1,((R9.up (w':=t)).kept F (by decide)).kept a8 (by decide),d6,(((H8.map.kept f9 (by decide)).up (w':=t)).kept F (by decide)).kept a8 (by decide),λs v V=>?_,H.empt,H.apart,λa9 s v V g r hf=>?_⟩
  ·have:=H8.rows s v V;exact⟨(((this.1.kept f9 (by decide)).up (w':=t)).kept F (by decide)).kept a8 (by decide),this.2⟩
  ·have f:=O5.lt a9;obtain⟨g5,h1,h2,_⟩:=f;rw[h1]at hf;cases hf;have f:=H.rows s v V;obtain⟨b0,W⟩:=f;have f:=b0.lt W;obtain⟨g',h3,_,h4⟩:=f;rw[h3]at r;cases r;have:=lz w w4;omega
 have b1:Bk G bx (enc x) 341:=((B9.mv (w:=t)).kept F (by decide)).fr I (λh=>c4 (.inr h));have e6:U≠b:=by intro e;exact z.map.ne z.cell e.symm
 have c9:U≠bx:=by intro e;exact z.map.ne b1 e.symm
 have e7:=z.look x.key.slot;obtain⟨X,e9⟩:=e7
 have a3:∀i,w.heap.size<=i\/i=b->¬AV B ((Au m x.key.slot).getD (.slice none 0 0)) i:=λi hi hd=>by
  have f:=e9 i hd.2.1;obtain⟨v0,f0,d0⟩:=f;have f:=H.rows _ v0 f0;obtain⟨b0,W⟩:=f;have f:=b0.lt W;obtain⟨g',h3,_,h4⟩:=f;rw[h3]at d0;cases d0;rcases hi with h|rfl
  ·omega
  ·rcases X with⟨_,a,e⟩|hO
   ·exact hd.2.2 a e
   ·have f:=hO.2;rcases f with⟨e,_⟩|⟨g2,cap,i1,e,_,f3,_⟩
    ·rw[e]at hd;cases hd.2.1
    ·have h5:=hd.2.1;rw[e]at h5;simp only[Value.blk]at h5;cases h5;have:=z.cell.h;rw[f3]at this;cases this
 have g1:(ch x.key.slot).length<=1000:=by
  have h1:=(T.of M C x.key.slot).length_eq;have h2:(N1 L x.key.slot).length<=L.length:=Qv _ _;rw[Qr]at h1;omega
 refine dT (λi=>i=U\/AV B ((Au m x.key.slot).getD (.slice none 0 0)) i) (oL [0,1,2,3,4,5,6,7,8,9,10,11,12,13,15] (.duo 14 (oL [16,17,18] .nil) 16 (.lone 14 (.one 17 (.one 18 .nil))))) λa1 d1=>?_;have nb:¬(b=U\/AV B ((Au m x.key.slot).getD (.slice none 0 0)) b):=λh=>h.elim (λh=>e6 h.symm) (a3 b (.inr rfl));have nx:¬(bx=U\/AV B ((Au m x.key.slot).getD (.slice none 0 0)) bx):=λh=>h.elim (λh=>c9 h.symm) (a3 bx (.inl d3));refine tX z.cell rfl nb (tX b1 rfl nx (tX z.cell rfl nb (tX b1 rfl nx ?_)));have J:=z.up (w':=a1)
 have fin:∀(u0 u1 u2:World) (v':Value),Le a1 u0->AD B 3 u1 v' (ch x.key.slot++[(p:Int)])->Fr (AV B ((Au m x.key.slot).getD (.slice none 0 0))) u0 u1->(Value.blk v'=Value.blk ((Au m x.key.slot).getD (.slice none 0 0))\/Value.blk v'=some u0.heap.size) ->
   BO PP 3 u2 U (CW x.key.slot v' m)->Fr (λi=>i=U) u1 u2->Ci (gR R w u2) B u2 b o size (HP x L)/\U2 o B w u2/\Fr R w u2:=λu0 u1 u2 v' L0 O1 f1 V M2 f2=>by
  have hc:=(J.up (w':=u0)).chain O1 f1 V M2 f2
  have Z5:PI (gP R w) b o size bt ta tc a5 c5 c U m:=⟨.inl Z.b,.inl Z.bt,λg r=>.inl (Z.ta g r),.inl Z.gs,.inl Z.bm,λa9 g r=>.inr (by
   have f:=O5.lt a9;obtain⟨g5,h1,h2,_⟩:=f;rw[h1]at r;cases r;have:=lz w w4;omega),λs v V g r=>.inl (Z.rows s v V g r)⟩
  have hz:=hc.2.2 _ Z5;have f4:w.heap.size<=u0.heap.size:=by have h1:=a2.size;have h2:=d1.e.size;have h3:=L0.e.size;omega
  exact⟨(show Ci (gP R w) B u2 b o size (HP x L) from⟨bt,ta,tc,_,a5,c5,c,sc,_,U,_,_,hc.1,T',M',C',hz.2 _ (λ_ h=>h) (.inr f4)⟩).end,(d8.trans (Cm.ext Le.e)).trans ((Cm.ext L0.e).trans (hc.2.1.x (Qe _) (by decide))),Fr.gP (((a2.mono λi _ hi=>.inl hi).trans (Fr.fr d1.e)).trans ((Fr.fr L0.e).trans hz.1))⟩
 refine⟨?_,?_⟩
 ·refine Hk J.map x.key.slot rfl ⟨Fr.refl _ _,?_⟩;refine bS (p:Int) λf5 d b2 _ b3=>⟨Fr.fr b2.e,?_⟩;have b4:B<=d.heap.size:=by have:=lz a1 d;have:=J.cell.lt;omega
  refine GB ⟨rfl,rfl⟩ (X.up (w':=d)) b3 (by simp) b4 (by simp;omega) λv' Y b5 K V=>⟨K.mono λi _ hi=>.inr hi,?_⟩;have b7:BO PP 3 Y U m:=(J.map.up (w':=d)).frO (X.up (w':=d)) K;refine Pt b7 x.key.slot rfl λb8 b9 a0 _=>⟨a0.mono λi _ hi=>.inl hi,?_⟩;exact⟨rfl,fin d Y b8 v' inferInstance b5 K V b9 a0⟩
 ·refine bS (p:Int) λf5 d b2 _ b3=>⟨Fr.fr b2.e,?_⟩;refine Hk (J.map.up (w':=d)) x.key.slot rfl ⟨Fr.refl _ _,?_⟩;have b4:B<=d.heap.size:=by have:=lz a1 d;have:=J.cell.lt;omega
  refine GB ⟨rfl,rfl⟩ (X.up (w':=d)) b3 (by simp) b4 (by simp;omega) λv' Y b5 K V=>⟨K.mono λi _ hi=>.inr hi,?_⟩;have b7:BO PP 3 Y U m:=(J.map.up (w':=d)).frO (X.up (w':=d)) K;refine Pt b7 x.key.slot rfl λb8 b9 a0 _=>⟨a0.mono λi _ hi=>.inl hi,?_⟩;exact⟨rfl,fin d Y b8 v' inferInstance b5 K V b9 a0⟩
end Go.W
