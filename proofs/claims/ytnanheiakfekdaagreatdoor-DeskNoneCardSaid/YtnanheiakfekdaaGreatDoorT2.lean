/-
  Proved here: parts of this claim.
  Conditions: told at each.
-/
import Derived.RecoverIn
import Derived.Shelf.Lays
import Derived.Test.YtnanheiakfekdaaGreatDoorProg
import Derived.Shelf.Small.Strs
import Derived.DeepKeys3
import Derived.Shelf.SlLaysF0
import Derived.Test.YtnanheiakfekdaaGreatDoorT1
set_option maxHeartbeats 4000000
set_option linter.unusedVariables false
set_option linter.unusedSimpArgs false
namespace Go.W
open Go Go.Proofs
open AL (enc)
set_option maxRecDepth 10000
variable {B N hi i j k m n:Nat} {D R:Nat -> Prop} {P:Program} {T:Cc} {a:OA} {g:Al} {q:FZ} {s:U8} {u w w':World}
def Qu (B:Nat) (w:World) (b:Nat) (most:Int) (L:List AG):Prop:=(∃l:List AG,Rn B b most l w/\Dp MU l l.length/\l.Perm L)/\Ht L
theorem Qu.up[Le w w']{b:Nat}{most:Int}{L:List AG}(h:Qu B w b most L):Qu B w' b most L:=by
 obtain⟨⟨l,c,d⟩,e⟩:=h;exact⟨⟨l,c.up,d⟩,e⟩
theorem Qu.kept{C:Nat}{es:List TypeId}{b:Nat}{most:Int}{L:List AG}(h:Qu B w b most L)(f:BP C es w w')(d:473∉es)(e:499∉es):Qu B w' b most L:=by
 obtain⟨⟨l,⟨a,c,q⟩,r⟩,o⟩:=h;exact⟨⟨l,⟨a,c,q.lo,q.cell.kept f d,q.row.kept f e,q.size⟩,r⟩,o⟩
theorem Qu.lt{b:Nat}{most:Int}{L:List AG}(h:Qu B w b most L):B<=b/\b<w.heap.size:=by
 obtain⟨⟨l,⟨a,c,q⟩,r⟩,d⟩:=h;exact⟨q.lo,q.cell.lt⟩
theorem yI{b:Nat}{most:Int}{L:List AG}(Q:Qu B w b most L):Sp PP 403 #[.pointer (some ⟨b,0,none⟩)] w λv w'=>v=.int .i64 (L.length:Nat)/\AC w w':=by
 obtain⟨⟨l,⟨a,c,q⟩,_,d⟩,_⟩:=Q;refine eN ?_;refine EE (AA (vS q) ?_);rintro v w1 ⟨rfl,rfl⟩;rw[d.length_eq];exact⟨rfl,stp⟩
theorem zKP{b:Nat}{most:Int}{l:List AG}(S:Rn B b most l w)(F:Dp MU l l.length)(o:l≠[]):
  Sp PP 404 #[.pointer (some ⟨b,0,none⟩)] w λv w'=>v=agg (By l 0)/\(∃l':List AG,(By l 0::l').Perm l/\Rn B b most l' w'/\Dp MU l' l'.length)/\BP B pE w w':=by
 refine eN ?_;refine Ao λG w1 n1 H=>Hp (AA (RP (nC B b most) (RX:=λx v=>v=.iface 499 (agg x)) (zO7 B b most) (S.up (w':=w1)) o F) ?_);rintro v h ⟨⟨rfl,l',I,J,p⟩,r⟩;have d:=n1.lo (u:=w);have K:BP B pE w h:=(BP.ext Le.e).trans r;have t:Bk h G [.int .i64 0,.int .i64 0] 142:=H.kept r (by decide);refine Te (Ao λQ U n3 y=>rE y (By l 0) λf L z _=>?_);have V:AC h f:=n3.st z;clear y z;refine rG L (By l 0) (rE t (By l 0) λA W C _=>?_);have M:BP B pE w A:=Fr.new (Fr.trans K (fE h f)) C λi hi=>by subst hi;exact d
 have E:BP w.heap.size [142] f A:=(t.mv (w:=f)).wrote C d (by decide);refine AR rfl ?_;have O:=J.up (w':=f);obtain⟨a,c,q⟩:=O;exact⟨rfl,⟨l',I,⟨a,c,q.lo,q.cell.kept E (by decide),q.row.kept E (by decide),q.size⟩,p⟩,M⟩
theorem zJR{b:Nat}{most:Int}{L:List AG}{x:AG}(Q:Qu B w b most L)(hL:L.length<=99999):
  Sp PP 385 #[.pointer (some ⟨b,0,none⟩),agg x] w λv w'=>v=.tuple #[agg (Gs most L x).2.1,.bool (Gs most L x).2.2]/\Qu B w' b most (Gs most L x).1/\BP B pE w w':=by
 have QQ:=Q;obtain⟨⟨l,S,hh,X⟩,hs⟩:=Q;have a0:=X.length_eq;refine eN ?_;refine BM λbh w1 n1 Y=>Ao λb2 w2 n2 B2=>?_;have d:=n2.lo (u:=w);refine EE (dD (λi=>i≠bh) (Hq 7 0) λC e3=>Ud (tG Y x (λh=>h rfl) (Ud (AA (qA (nC B b most) (y:=x) (S.up (w':=C)) (by omega) hh (zN8 (S.up (w':=C)) (by omega))) ?_))));rintro v E ⟨⟨l',G,H,f⟩,I⟩;refine⟨I.ne (Y.mv (w:=C)) (by decide),?_⟩;have Z:BP B pE w E:=(BP.ext Le.e).trans I;have J:Bk E b2 [.int .i64 0,.int .i64 0] 142:=(B2.mv (w:=C)).kept I (by decide)
 have F:l'.Perm (Dx x L):=by
  refine G.trans ((VE x l).trans ((X.cons x).trans (aM x L).symm))
 have o:=vH x hs;have Q4:Qu B E b most (Dx x L):=⟨⟨l',H,f,F⟩,o⟩;have a1:=cX x L;refine dD (λ_=>False) [0,2,3,4,5,1,6] λw5 e5=>?_;have K:=H.up (w':=w5);obtain⟨a5,c5,q5⟩:=K;refine tX q5.cell rfl nf (AA (yI (Q4.up (w':=w5))) ?_);rintro v r ⟨rfl,e6⟩;refine⟨e6.e,?_⟩;refine ite (λM=>?_) (λMU=>?_)
 ·have p:Gs most L x=(Dx x L,zH,false):=by unfold Gs;rw[if_pos M]
  rw[p];refine AJ (cs:=enc zH) rfl (rE J zH λt B7 z _=>?_);have K7:BP w.heap.size [142] r t:=(J.mv (w:=r)).wrote z d (by decide);have O:BP B pE w t:=Fr.new (Fr.trans Z (fE E r)) z λi hi=>by subst hi;exact d
  refine AR rfl ?_;exact⟨rfl,(Q4.up (w':=r)).kept K7 (by decide) (by decide),O⟩
 ·have p:Gs most L x=((Dx x L).dropLast,(Dx x L).getLast?.getD zH,true):=by unfold Gs;rw[if_neg MU]
  rw[p];have U:l'≠[]:=by rintro rfl;have:=F.length_eq;simp at this;omega
  refine AA (zKP (H.up (w':=r)) f U) ?_;rintro v t ⟨rfl,⟨l7,V,S7,W⟩,z⟩;have A:=wK nJ f
  have c:=o.last (V.trans F) (λy hy=>by
   have K:=QI.1 (F.mem_iff.2 hy);obtain⟨i,hi,rfl⟩:=K;have:=A i hi;rw[Mn hi]at this;exact this)
  rw[c.1];have C7:=(J.mv (w:=r)).kept z (by decide);have O:BP B pE w t:=(Z.trans (BP.ext Le.e)).trans z;refine rE C7 (By l' 0) λw8 B8 f8 _=>?_;have K8:BP w.heap.size [142] t w8:=C7.wrote f8 d (by decide);have F8:BP B pE w w8:=Fr.new O f8 λi hi=>by subst hi;exact d
  have Q7:Qu B t b most (Dx x L).dropLast:=⟨⟨l7,S7,W,c.2⟩,o.sublist (List.dropLast_sublist _)⟩;refine AR rfl ?_;exact⟨rfl,Q7.kept K8 (by decide) (by decide),F8⟩
theorem yZ{c:Nat}{l:List AG}(h:AQ w (.slice a n c) l)(x:l.length<=1000000):Sp PP 405 #[.slice a n c] w λv w'=>AD w.heap.size 499 w' v l/\AC w w':=by
 have p:=h.len;obtain rfl:=p;refine eN ?_;refine Kv (λe=>?_) (λe=>?_)
 ·have r:l=[]:=by
   obtain⟨y,z,t,_,d⟩:=h;cases t;rcases d with d|⟨b,o,hb,_⟩
   ·exact d
   ·rw[e]at hb;cases hb
  subst r;exact⟨AD.nil _ _ _,stp⟩
 ·refine Ky (α:=AG) [] rfl (vs:=[]) rfl rfl (by decide) λA w1 n1 _=>?_;have C:AC w w1:=⟨n1.ext⟩;refine Mz (u:=w) ⟨rfl,rfl⟩ (AD.nil' _ 499 _ _) (h.up (w':=w1)) (by simp;omega) λE F f G H=>?_;rw[Je]at f;exact⟨f,stp⟩
instance:Inhabited AG:=⟨zH⟩
theorem zQS:Go.Sort.SWO (ltOf NV):=by
 have h:=LO;refine⟨λx=>?_,λx y z b c=>?_,λx y z b c=>?_⟩<;>simp only[ltOf,decide_eq_false_iff_not,decide_eq_true_eq,h,iJ]at *<;>omega
theorem zJP{b:Nat}{most:Int}{L:List AG}(Q:Qu B w b most L):
  Sp PP 386 #[.pointer (some ⟨b,0,none⟩)] w λv w'=>AD w.heap.size 142 w' v L/\AC w w':=by
 obtain⟨⟨l,⟨a,c,q⟩,hh,G⟩,S⟩:=Q;have t:=G.length_eq;have U:=q.size;refine eN ?_;refine EE (rX q.cell rfl (AA (yZ q.row.sl (by omega)) ?_));rintro v w1 ⟨H,e1⟩;have z:=H.shape;obtain⟨a1,c1,rfl⟩:=z;refine AA (Wl Tryz.sortH (k:=2) (show FY PP 499 2 from inferInstance) rfl NV zQS (f:=406) rfl (λx y W=>vF) H (by omega)) ?_;rintro r p ⟨rfl,d,A,C,I,V⟩;have s2:Gi w w1 p:=NF V
 have E:Ht d:=C.imp λ{x y} h=>by
  cases X:BS y x with
  |false=>rfl
  |true=>exact(h ((LO _ _).2 X)).elim
 have F:d=L:=E.uniq S (A.trans G);subst F;rw[t]at I ⊢;refine cO 19 [6] 4 19 d.length (λk v u=>AD p.heap.size 142 u v (d.take k)/\AC p u) ⟨AD.nil _ 142 _,stp⟩ ?_;rintro k v g u hk ⟨O,e⟩;refine ite (λJ=>?_) (λY=>?_)
 ·have o:k<d.length:=by omega
  refine Bp (I.sl.up (w':=u)) (x:=d[k]) (by simp) λb4 o4 Z=>Ah Z rfl (Ao λb5 u5 n5 K=>rE K (d[k]) λu6 B6 M _=>?_);have s6:AC u u6:=n5.st M;clear K M;refine rG B6 (d[k]) (HS d[k] rfl rfl (by decide) λb7 u7 e7 _ S7=>Aw (u:=p) ⟨rfl,rfl⟩ (O.up (w':=u7)) S7 (by rw[Qm];omega) λv8 u8 O8 f8 s8=>rA ⟨rfl,o,?_,stp⟩);rw[Ci o];exact O8
 ·have z:k=d.length:=by omega
  obtain rfl:=z;rw[Qg]at O;exact⟨O.older,stp⟩
def Ea (k:Int) (l:List AG):List AG:=l.foldl (λL x=>(Gs k L x).1) []
theorem zM8(k:Int)(l:List AG):(Ea k l).length<=l.length:=by
 have:∀(l L:List AG),(l.foldl (λL x=>(Gs k L x).1) L).length<=L.length+l.length:=by
  intro l
  induction l with
  |nil=>intro L;simp
  |cons x r b=>intro L;rw[JY];have:=b (Gs k L x).1;have:=zL (most:=k) (L:=L) (x:=x);simp;omega
 have:=this l [];unfold Ea;simpa using this
theorem zLA{k:Int}{l:List AG}(h:i<l.length):Ea k (l.take (i+1))=(Gs k (Ea k (l.take i)) l[i]).1:=by
 unfold Ea;rw[Ci h,VF];rfl
theorem zJp{c:Nat}{l:List AG}{k:Int}(h:AQ w (.slice a n c) l)(M:l.length<=1000):
  Sp PP 337 #[.slice a n c,.int .i64 k] w λv w'=>AD w.heap.size 142 w' v (if k<1 then[] else Ea k l)/\AC w w':=by
 have f:=h.len;obtain rfl:=f;refine eN ?_;refine ite (λo=>?_) (λo=>?_)
 ·rw[if_pos o];exact⟨AD.nil _ _ _,stp⟩
 rw[if_neg o];refine AJ (cs:=[.slice none 0 0,.int .i64 k]) rfl (BM λb w1 n1 A=>?_);have C:Qu w.heap.size w1 b k (Ea k (l.take 0)):=⟨⟨[],⟨none,0,n1.lo,A,AD.nil _ _ _,by simp⟩,λc c0 E=>absurd E (by simp),.refl _⟩,.nil⟩;refine cN 15 [7] 15 l.length (λi u=>Qu w.heap.size u b k (Ea k (l.take i))/\AC w u) ⟨C,stp⟩ ?_;rintro i g u hi ⟨Q,e⟩;refine ite (λr=>?_) (λF=>?_)
 ·have d:i<l.length:=by omega
  refine Bp (h.up (w':=u)) (x:=l[i]) (by simp) λO S G=>Ah G rfl (Ao λU V n5 t=>rE t (l[i]) λy H z _=>?_);have W:AC u y:=n5.st z;clear t z;have p:=zM8 k (l.take i);rw[Qm]at p;refine rG H (l[i]) (AA (zJR (x:=l[i]) (Q.up (w':=y)) (by omega)) ?_);rintro v I ⟨rfl,J,K⟩;have X:AC w I:=⟨BP.st Le.e K (Qe _)⟩;refine rA ⟨rfl,d,?_,stp⟩;rw[zLA d];exact J
 ·have f:i=l.length:=by omega
  obtain rfl:=f;rw[Qg]at Q;refine AA (zJP Q) ?_;rintro v Y ⟨L,Z⟩;exact⟨L.older,stp⟩
def UZ (l:List AG):List AG:=l.foldl (λL x=>Dx x L) []
theorem zNu(l:List AG):Ht (UZ l)/\(UZ l).Perm l:=by
 have:∀(l L:List AG),Ht L->Ht (l.foldl (λL x=>Dx x L) L)/\(l.foldl (λL x=>Dx x L) L).Perm (L++l):=by
  intro l
  induction l with
  |nil=>intro L h;exact⟨h,by simp⟩
  |cons x r b =>
   intro L h;rw[JY];have:=b (Dx x L) (vH x h);exact⟨this.1,this.2.trans (((aM x L).append_right r).trans List.perm_middle.symm)⟩
 have h:=this l [] .nil;exact⟨h.1,h.2⟩
theorem mJ(x:AG):∀(l:List AG) (n:Nat),(Dx x l).take n=(Dx x (l.take n)).take n
 |[],n=>by simp
 |y::r,0=>by simp
 |y::r,n+1=>by
  rw[Vd];unfold Dx;split
  ·rw[Vd,Vd];congr 1
   cases n with
   |zero=>simp
   |succ m=>rw[Vd,Vd,Xz,VB (by omega)]
  ·rw[Vd,Vd,mJ x r n]
theorem zOb(b:k=n){M:List AG}(c:M.length<=n)(x:AG):(Gs (k:Int) M x).1=(Dx x M).take n:=by
 subst b;unfold Gs;have d:=cX x M;split
 ·rw[Qj (by omega)]
 ·rw[XO,show(Dx x M).length - 1=k by omega]
theorem zLB(k:Nat)(l:List AG):Ea (k:Int) l=(UZ l).take k:=by
 have:∀(l L M:List AG),M=L.take k->l.foldl (λL x=>(Gs (k:Int) L x).1) M=(l.foldl (λL x=>Dx x L) L).take k:=by
  intro l
  induction l with
  |nil=>intro L M h;exact h
  |cons x r b =>
   intro L M h;rw[JY,JY];refine b (Dx x L) _ ?_;subst h;rw[zOb rfl (by rw[Qm];omega),<-mJ]
 exact this l [] [] (by simp)
def mC (s:U8) (a:Int) (v:Value):Prop:=
 (∃A n:Nat,a=(A:Int)/\FB s A n/\v=.tuple #[.int .i64 (n:Nat),.int .i64 ((A+(AK n).length:Nat):Int),.bool true]) \/
 ((∀A n:Nat,a=(A:Int)->¬FB s A n)/\v=.tuple #[.int .i64 0,.int .i64 0,.bool false])
theorem zQq{a:Nat}(h:FB s a n):a<s.length:=by
 obtain⟨_,t,b⟩:=h;have:=congrArg List.length b;have:=JI.2 (jH n);simp at *;omega
theorem Ml(s:U8)(a b:Nat):(⟨s.toArray⟩:ByteArray).extract a b=⟨((s.drop a).take (b - a)).toArray⟩:=by
 apply ByteArray.ext;rw[ByteArray.data_extract];simp
def Ba (l:List Int):U8:=l.flatMap λn=>if 0<=n/\n<=2147483647 then AK n.toNat else[]
theorem zNi(l:List Int)(n:Int):Ba (l++[n])=Ba l++if 0<=n/\n<=2147483647 then AK n.toNat else[]:=by simp[Ba]
theorem y7{l:List Int}(h:k<l.length):Ba (l.take (k+1))=Ba (l.take k)++if 0<=l[k]/\l[k]<=2147483647 then AK l[k].toNat else[]:=by
 rw[Ci h,zNi]
theorem Uk(l:List Int):(Ba l).length<=5*l.length:=by induction l<;>grind[Ba,AK,List.length_append,List.length_cons,Lp]
theorem SJ(a b:U8):(⟨a.toArray⟩:ByteArray)++⟨b.toArray⟩=⟨(a++b).toArray⟩:=by
 apply ByteArray.ext;rw[ByteArray.data_append];simp
theorem NA(b:Bool):∀u∈[Value.bool b],u.oneCell'=true:=by intro u c;simp at c;subst c;rfl
theorem HN(x:Int):∀u∈[Value.int .i64 x],u.oneCell'=true:=by intro u b;simp at b;subst b;rfl
structure Mi where
 found:Bool
 num:Int
 s:SV
structure CG where
 id:Int
 code:Int
 a:Mi
instance:AL Mi:=⟨3,λx=>[.bool x.found,.int .i64 x.num,.slice x.s.a x.s.n x.s.c],λ_=>rfl,by intro x u hu;simp at hu;rcases hu with rfl|rfl|rfl<;>rfl,by decide⟩
instance:AL CG:=⟨5,λx=>[.int .i64 x.id,.int .i64 x.code,.bool x.a.found,.int .i64 x.a.num,.slice x.a.s.a x.a.s.n x.a.s.c],λ_=>rfl,by intro x u hu;simp at hu;rcases hu with rfl|rfl|rfl|rfl|rfl<;>rfl,by decide⟩
def Eb (h:AG):Prop:=0<=h.v/\h.v<200/\0<=h.d/\h.d<=200
def BE (x:CG) (l:List AG):Prop:=
 (0<=x.id/\x.id<=2147483647)/\(0<=x.code/\x.code<=1000)/\(0<=x.a.num/\x.a.num<=400)/\l.length<=100 /\
 (x.code≠0->x.a.found=false/\x.a.num=0/\l=[])/\(x.a.found=false->x.a.num=0/\l=[])/\(l=[]\/x.a.num=0)/\∀h∈l,Eb h
def Az (l:List AG):U8:=l.flatMap λh=>Ba [h.v,h.d]
def DF (x:CG) (l:List AG):U8:=Ba [x.id,x.code]++if x.code≠0 then[] else Ba [if x.a.found then 1 else 0,x.a.num,(l.length:Int)]++Az l
theorem yV{l:List AG}{y:AG}(h:l[k]? = some y):Az (l.take (k+1))=Az (l.take k)++Ba [y.v,y.d]:=by grind[Az,Ba,List.getElem?_eq_some_iff,Ci,List.getElem?_eq_getElem]
theorem uF(l:List AG):(Az l).length<=10*l.length:=by induction l<;>grind[Az,Ba,Uk,List.length_append,List.length_cons]
open Go
def Hr:List Int->Option Int
 |[]=>none
 |x::r=>match Hr r with
  |none=>some x
  |some y=>some (min x y)
theorem zN4{l:List Int}:Hr l=none↔l=[]:=by
 cases l with
 |nil=>simp[Hr]
 |cons x r=>unfold Hr;cases Hr r<;>simp
theorem nU{l:List Int}{m:Int}:Hr l=some m↔m∈l/\∀y∈l,m<=y:=by
 induction l generalizing m with
 |nil=>simp[Hr]
 |cons x r o =>
  unfold Hr
  cases d:Hr r with
  |none =>
   have:=zN4.1 d;subst this;simp only[JK,Qc,forall_eq];exact⟨λh=>⟨h.symm,by omega⟩,λh=>h.1.symm⟩
  |some y =>
   have b:=o.1 d;obtain⟨e,f⟩:=b;simp only[JK,Ql,forall_eq_or_imp];constructor
   ·rintro rfl;refine⟨?_,Int.min_le_left _ _,λz p=>Int.le_trans (Int.min_le_right _ _) (f z p)⟩;have b:=Int.le_total x y;rcases b with h|h
    ·exact .inl (Int.min_eq_left h)
    ·right;rw[Yk h];exact e
   ·rintro⟨c,t,h5⟩;have:=h5 y e;rcases c with rfl|c
    ·omega
    ·have:=f m c;omega
def Kj (S:List AN):List Int:=S.flatMap λx=>if x.key.dir=0 then(S.filter λy=>decide (y.key.dir=1/\y.key.v=x.key.v)).map λy=>x.d+y.d else[]
theorem bT{S:List AN}{m:Int}:m∈Kj S↔∃x∈S,∃y∈S,x.key.dir=0/\y.key.dir=1/\y.key.v=x.key.v/\m=x.d+y.d:=by
 unfold Kj;simp only[VP];constructor
 ·rintro⟨x,e,h⟩;split at h
  ·rename_i h0;have f:=Qq.1 h;obtain⟨y,b,rfl⟩:=f;have f:=QC.1 b;obtain⟨b,c⟩:=f;simp only[decide_eq_true_eq]at c;exact⟨x,e,y,b,h0,c.1,c.2,rfl⟩
  ·cases h
 ·rintro⟨x,e,y,b,h0,c,l,rfl⟩;refine⟨x,e,?_⟩;rw[if_pos h0];exact Qq.2 ⟨y,QC.2 ⟨b,by simp[c,l]⟩,rfl⟩
structure Gj where
 found:Bool
 num:Int
 hits:List AG
deriving DecidableEq
def Dw:Gj:=⟨false,0,[]⟩
def Ee (M:List AN) (d:Int):Bool:=M.any λm=>decide (m.key.dir=d)
def CI (k:Int) (l:List AG):List AG:=if k<1 then[] else Ea k l
def CO (pl:List Int) (S:List AN):List AG:=(S.filter λx=>decide (x.key.dir=0) && pl.contains x.key.v).map λx=>⟨x.key.v,x.d⟩
def MC (S M:List AN):Gj×Bool:=match Hr (Kj S) with
 |some m=>(⟨true,m,[]⟩,true)
 |none=>(Dw,!Ee M 0 || !Ee M 1)
def HK (to:Int) (S M:List AN):Gj×Bool:=
 if S.any λx=>decide (x.key.dir=0/\x.key.v=to) then(⟨true,0,[]⟩,true) else(Dw,M.isEmpty)
def KH (pl:List Int) (most:Int) (S M:List AN):Gj×Bool:=
 if M.isEmpty then(⟨!(CI most (CO pl S)).isEmpty,0,CI most (CO pl S)⟩,true) else(Dw,false)
def Ac (g:Al) (ws:List ByteArray):List Int:=((List.range g.n).filter λv=>ws.all λs=>(g.ws.getD v []).contains s).map λv:Nat=>(v:Int)
def As (g:Al) (q:FZ) (S M:List AN):Gj×Bool:=
 if q.kind=1 then MC S M else if q.kind=2 then HK q.to S M else if q.kind=3 then KH (Ac g q.words) q.most S M else(Dw,true)
structure DP where
 workers:Nat
 slots:Nat
 queue:Nat
 pool:Nat
 budget:Nat
structure Bj where
 id:Int
 kind:Int
 q:FZ
structure EV where
 wait:List Bj
 held:List (Option (Bj×Nat))
def Dt (W:Nat) (v:Int):Int:=(v*40503+12345) % 65536 % W
def Ii (g:Al) (h:Option (Bj×Nat)) (at':Nat):List AN:=match h with
 |some (x,i)=>sts g x.q at' i
 |none=>[]
def Fl (g:Al) (h:List (Option (Bj×Nat))):List AN:=(List.range h.length).flatMap λk=>Ii g (h.getD k none) k
def DC (g:Al) (W:Nat) (h:List (Option (Bj×Nat))) (w:Nat):Nat:=((Fl g h).filter λx=>decide (Dt W x.key.v=w)).length
def Ce (g:Al) (c:DP) (h:List (Option (Bj×Nat))):Bool:=(List.range c.workers).any λw=>decide (c.pool<DC g c.workers h w)
def BC (id code:Int) (a:Gj):CG:=⟨id,code,⟨a.found,a.num,⟨none,0,0⟩⟩⟩
open Classical in
/-- a reply's bytes; one that may not be has none -/
noncomputable def Gr (id code:Int) (a:Gj):U8:=if BE (BC id code a) a.hits then DF (BC id code a) a.hits else[]
noncomputable def BB (g:Al) (c:DP) (h:List (Option (Bj×Nat))) (k:Nat):List (Option (Bj×Nat))×Option (U8):=
 match h.getD k none with
 |none=>(h,none)
 |some (x,i) =>
  if Ce g c (h.set k (some (x,i+1))) then(h.set k none,some (Gr x.id 250 Dw))
  else if(As g x.q (sts g x.q k (i+1)) (CX g x.q k (i+1))).2 then(h.set k none,some (Gr x.id 0 (As g x.q (sts g x.q k (i+1)) (CX g x.q k (i+1))).1))
  else if c.budget<=i+1 then(h.set k none,some (Gr x.id 251 Dw))
  else(h.set k (some (x,i+1)),none)
def Ar (h:List (Option (Bj×Nat))):List Nat:=DX (λk=>(h.getD k none).isSome) h.length
def Hw (h:List (Option (Bj×Nat))):Option Nat:=h.findIdx? λx=>x.isNone
def BQ:List Bj->List (Option (Bj×Nat))->List Bj×List (Option (Bj×Nat))
 |[],h=>([],h)
 |x::r,h=>match Hw h with
  |some k=>BQ r (h.set k (some (x,0)))
  |none=>(x::r,h)
noncomputable def BJ (g:Al) (c:DP):List Nat->List (Option (Bj×Nat))->List (Option (Bj×Nat))×List (U8)
 |[],h=>(h,[])
 |k::r,h=>((BJ g c r (BB g c h k).1).1,(BB g c h k).2.toList++(BJ g c r (BB g c h k).1).2)
noncomputable def Ew (g:Al) (c:DP) (s:EV):EV×List (U8):=
 (⟨(BQ s.wait s.held).1,(BJ g c (Ar (BQ s.wait s.held).2) (BQ s.wait s.held).2).1⟩,(BJ g c (Ar (BQ s.wait s.held).2) (BQ s.wait s.held).2).2)
def De (h:List (Option (Bj×Nat))) (id:Int):Option Nat:=h.findIdx? λx=>match x with
 |some (r,_)=>decide (r.id=id)
 |none=>false
def EM (l:List Bj) (id:Int):Option Nat:=l.findIdx? λr=>decide (r.id=id)
def DK (s:EV) (id:Int):EV×Int:=match EM s.wait id with
 |some k=>(⟨s.wait.eraseIdx k,s.held⟩,253)
 |none=>match De s.held id with
  |some k=>(⟨s.wait,s.held.set k none⟩,253)
  |none=>(s,141)
open Classical in
noncomputable def DW (g:Al) (c:DP) (s:EV) (x:Bj) (ok:Prop):EV×Int:=
 if ok then(if(De s.held x.id).isSome then(s,150) else if(EM s.wait x.id).isSome then(s,150) else if c.queue<=s.wait.length then(s,252) else(⟨s.wait++[x],s.held⟩,0)) else(s,180)
open Classical in
/-- a number at the front of bytes, and what is left -/
noncomputable def EF (r:U8):Option (Nat×U8):=if h:∃p:Nat×U8,p.1<=2147483647/\r=AK p.1++p.2 then some h.choose else none
theorem ZI{r t:U8}:EF r=some (n,t)↔n<=2147483647/\r=AK n++t:=by
 unfold EF;split
 ·rename_i h;have b:=h.choose_spec;constructor
  ·intro e;rw[QL e]at b;exact b
  ·rintro⟨_,c⟩;have e:=Ij (b.2.symm.trans c);congr 1;exact Prod.ext e.1 e.2
 ·rename_i h;exact⟨(λe=>nomatch e),λe=>absurd ⟨(n,t),e⟩ h⟩
theorem zPh{r:U8}:EF r=none↔∀(n:Nat) (t:U8),n<=2147483647->r≠AK n++t:=by
 constructor
 ·intro h n t b c;rw[ZI.2 ⟨b,c⟩]at h;cases h
 ·intro h
  cases e:EF r with
  |none=>rfl
  |some p=>obtain⟨b,c⟩:=ZI.1 e;exact absurd c (h _ _ b)
theorem NT(h:n<=2147483647)(t:U8):EF (AK n++t)=some (n,t):=ZI.2 ⟨h,rfl⟩
noncomputable def GS (r:U8):Option (U8×U8):=match EF r with
 |some (n,t)=>if n<=4000/\n<=t.length then some (t.take n,t.drop n) else none
 |none=>none
def Af {α:Type} (f:U8->Option (α×U8)):Nat->U8->Option (List α×U8)
 |0,r=>some ([],r)
 |k+1,r=>match f r with
  |none=>none
  |some (x,t)=>match Af f k t with
   |none=>none
   |some (l,u)=>some (x::l,u)
def Gl {α:Type} (acc:List α) (o:Option (List α×U8)):Option (List α×U8):=o.map λp=>(acc++p.1,p.2)
section
variable {α:Type} {f:U8->Option (α×U8)}
theorem bH(o:Option (List α×U8)):Gl [] o=o:=by cases o<;>simp[Gl]
theorem aE{r:U8}(h:f r=none):Af f (k+1) r=none:=by simp[Af,h]
theorem Sy{r t:U8}{x:α}(h:f r=some (x,t))(b:List α):Gl b (Af f (k+1) r)=Gl (b++[x]) (Af f k t):=by
 simp only[Af,h]
 cases Af f k t with
 |none=>rfl
 |some p=>simp[Gl]
end
noncomputable def DQ (r:U8):Option (List Nat×U8):=match EF r with
 |some (n,t)=>if n<=4000 then Af EF n t else none
 |none=>none
noncomputable def EJ (r:U8):Option (List (U8)×U8):=match EF r with
 |some (n,t)=>if n<=8 then Af GS n t else none
 |none=>none
noncomputable def GP (r:U8):Option ((List Nat×List (U8))×U8):=match DQ r with
 |some (l,t)=>match EJ t with
  |some (w,u)=>some ((l,w),u)
  |none=>none
 |none=>none
def AS (l:U8):ByteArray:=⟨l.toArray⟩
theorem SC{a b:U8}(h:AS a=AS b):a=b:=by
 have:=congrArg (λx:ByteArray=>x.data.toList) h;simpa[AS]using this
def BF:Nat->List (List Nat)->List BO
 |_,[]=>[]
 |v,l::r=>l.map (λt=>⟨v,t⟩)++BF (v+1) r
theorem zM5(l:List Nat):∀(b:List (List Nat)) (v:Nat),BF v (b++[l])=BF v b++l.map λt=>⟨v+b.length,t⟩:=by intro a;induction a<;>grind[BF]
def Lu (n:Nat) (ps:List (List Nat×List (U8))):Al:=⟨n,BF 0 (ps.map (·.1)),ps.map λp=>p.2.map AS⟩
def GC (s:ByteArray):Prop:=(∀c∈s.data.toList,97<=c.toNat/\c.toNat<=122)/\1<=s.size/\s.size<=12
def Dl (a b:BO):Prop:=a.f<b.f\/a.f=b.f/\a.t<b.t
def Cs (a b:ByteArray):Prop:=a.data.toList<b.data.toList
structure Bb (g:Al):Prop where
 ok:Mv g
 ne:g.es.length<=2000
 nw:g.ws.length=g.n
 word:∀l∈g.ws,l.length<=8/\∀s∈l,GC s
 er:g.es.Pairwise Dl
 wr:∀l∈g.ws,l.Pairwise Cs
noncomputable def UQ (s:U8):Option (Nat×List (List Nat×List (U8))×U8):=match s with
 |119::103::r=>match EF r with
  |some (n,t)=>if n<=200 then(match Af GP n t with|some (ps,u)=>some (n,ps,u)|none=>none) else none
  |none=>none
 |_=>none
open Classical in
/-- an image's graph -/
noncomputable def Ef (s:U8):Option Al:=match UQ s with
 |some (n,ps,u)=>if u=[]/\Bb (Lu n ps) then some (Lu n ps) else none
 |none=>none
theorem zOY(h:Ef s=some g):Bb g:=by
 unfold Ef at h;split at h
 ·split at h
  ·rename_i b;cases h;exact b.2
  ·cases h
 ·cases h
noncomputable def Ko (kind:Nat) (r:U8):Option (FZ×U8):=match EF r with
 |none=>none
 |some (a,r1) =>
  if kind<=2 then(match EF r1 with
   |none=>none
   |some (b,r2)=>some (⟨kind,a,b,[],0,0⟩,r2))
  else match EJ r1 with
   |none=>none
   |some (ws,r2)=>match EF r2 with
    |none=>none
    |some (x,r3)=>match EF r3 with
     |none=>none
     |some (y,r4)=>some (⟨kind,a,0,ws.map AS,x,y⟩,r4)
def Ly:FZ:=⟨0,0,0,[],0,0⟩
noncomputable def Mg (s:U8):Option (Bj×U8):=match EF s with
 |none=>none
 |some (id,r1)=>match EF r1 with
  |none=>none
  |some (k,r2)=>if k<=4 then(if k=4 then some (⟨id,4,Ly⟩,r2) else match Ko k r2 with
   |none=>none
   |some (q,r3)=>some (⟨id,k,q⟩,r3)) else none
def Bt (q:FZ) (n:Int):Prop:=(q.kind=1\/q.kind=2\/q.kind=3)/\(0<=q.frm/\q.frm<n)/\(q.kind<3->0<=q.to/\q.to<n) /\
 (q.kind=3->(1<=q.words.length/\q.words.length<=8)/\(0<=q.rad/\q.rad<=200)/\(1<=q.most/\q.most<=100)/\∀s∈q.words,GC s)
theorem Bt.ok(h:Bt q n):Ld q n:=⟨h.1,h.2.1,h.2.2.1,λk=>by have:=h.2.2.2 k;omega⟩
def EU (x:Bj):Prop:=(x.kind=4\/x.q.kind=x.kind/\Bt x.q 200)/\(0<=x.id/\x.id<=2147483647) /\
 (if x.kind=4 then x.q=Ly else if x.kind=3 then x.q.to=0 else x.q.words=[]/\x.q.rad=0/\x.q.most=0)
open Classical in
noncomputable def Dn (s:U8):Option Bj:=match Mg s with
 |some (x,[])=>if EU x then some x else none
 |_=>none
noncomputable def Lo (s:U8):Option Nat:=(EF s).map (·.1)
theorem pN{x:Bj}(h:Dn s=some x):EU x:=by
 unfold Dn at h;split at h
 ·split at h
  ·rename_i b;cases h;exact b
  ·cases h
 ·cases h
noncomputable def HY (g:Al) (c:DP) (s:EV) (f:U8):EV×Option (U8):=match Dn f with
 |none=>match Lo f with
  |none=>(s,none)
  |some id=>(s,some (Gr id 220 Dw))
 |some x=>if x.kind=4 then((DK s x.id).1,some (Gr x.id (DK s x.id).2 Dw))
  else if(DW g c s x (Bt x.q g.n)).2=0 then((DW g c s x (Bt x.q g.n)).1,none) else(s,some (Gr x.id (DW g c s x (Bt x.q g.n)).2 Dw))
abbrev Hs:=List (Option (Bj×Nat))
theorem zOt{f f':Nat->Nat}(h:∀j,j≠k->f' j=f j):∀n,k<n->((List.range n).map f').sum+f k=((List.range n).map f).sum+f' k:=by
 intro n
 induction n with
 |zero=>intro d;omega
 |succ n e =>
  intro d;rw[Jm,QB,QB,XV,XV];simp only[QS,JP,List.sum_cons,List.sum_nil];have b:=QH k n;rcases b with c|c
  ·have:=e c;have:=h n (by omega);omega
  ·have b:k=n:=by omega
   obtain rfl:=b
   have:((List.range k).map f')=((List.range k).map f):=by
    apply Ja;intro j l;exact h j (by have:=Q0.1 l;omega)
   rw[this];omega
def Ms (g:Al) (W:Nat) (w:Nat) (o:Option (Bj×Nat)) (k:Nat):Nat:=((Ii g o k).filter λx=>decide (Dt W x.key.v=w)).length
theorem oI(g:Al)(W:Nat)(h:Hs)(w:Nat):DC g W h w=((List.range h.length).map λk=>Ms g W w (h.getD k none) k).sum:=by
 unfold DC Fl Ms;rw[List.filter_flatMap,List.length_flatMap]
theorem XF{α:Type}{l:List α}{x z:α}(b:k<l.length):(l.set k x).getD j z=if j=k then x else l.getD j z:=by grind
theorem kS{W w:Nat}{h:Hs}(b:k<h.length)(o:Option (Bj×Nat)):DC g W (h.set k o) w+Ms g W w (h.getD k none) k=DC g W h w+Ms g W w o k:=by grind[oI,List.length_set,zOt,XF]
theorem zOI(g:Al)(W w k:Nat):Ms g W w none k=0:=rfl
theorem qZ(g:Al)(W w k:Nat)(x:Bj):Ms g W w (some (x,0)) k=0:=rfl
theorem aA{c:DP}{h:Hs}:Ce g c h=true↔∃w,w<c.workers/\c.pool<DC g c.workers h w:=by
 simp[Ce]
theorem YO{c:DP}{h b:Hs}(e:∀w,DC g c.workers b w<=DC g c.workers h w)(d:Ce g c h=false):Ce g c b=false:=by
 rw[<-Vy,aA]at d ⊢;rintro⟨w,f,l⟩;exact d ⟨w,f,by have:=e w;omega⟩
theorem jE{W:Nat}{h:Hs}(b:k<h.length)(w:Nat):DC g W (h.set k none) w<=DC g W h w:=by
 have:=kS (g:=g) (W:=W) (w:=w) b none;rw[zOI]at this;omega
def Cr (l:List Bj):List Int:=l.map (·.id)
def Bg (h:Hs):List Int:=h.filterMap λo=>o.map (·.1.id)
structure Ub (g:Al) (x:Bj):Prop where
 q:Bt x.q g.n
 id:0<=x.id/\x.id<=2147483647
structure Db (g:Al) (c:DP) (s:EV):Prop where
 len:s.held.length=c.slots
 wl:s.wait.length<=c.queue
 wait:∀x∈s.wait,Ub g x
 held:∀x i,some (x,i)∈s.held->Ub g x/\i<c.budget
 ids:(Bg s.held++Cr s.wait).Nodup
 pool:Ce g c s.held=false
structure Ki (c:DP):Prop where
 workers:1<=c.workers/\c.workers<=16
 slots:1<=c.slots/\c.slots<=64
 queue:1<=c.queue/\c.queue<=1000
 pool:1<=c.pool/\c.pool<=400
 budget:1<=c.budget/\c.budget<=1000
theorem bA{h:Hs}(b:k<h.length)(o:Option (Bj×Nat)):Bg (h.set k o)=Bg (h.take k)++(o.map (·.1.id)).toList++Bg (h.drop (k+1)):=by
 rw[Vn,if_pos b];unfold Bg;rw[XP,List.filterMap_cons,Qp];cases o<;>simp
theorem jX{h:Hs}(b:k<h.length):Bg h=Bg (h.take k)++((h.getD k none).map (·.1.id)).toList++Bg (h.drop (k+1)):=by
 have:=bA b (h.getD k none)
 have e:h.set k (h.getD k none)=h:=by
  rw[Qk,Qd b];simp
 rw[e]at this;exact this
theorem oY{h:Hs}(b:k<h.length){x:Bj}(e:h.getD k none=some (x,i)):Bg (h.set k (some (x,j)))=Bg h:=by
 rw[bA b,jX b,e];rfl
theorem aS{h:Hs}(b:k<h.length){x:Bj}(e:h.getD k none=some (x,i)):(x.id::Bg (h.set k none)).Perm (Bg h):=by
 rw[bA b,jX b,e];simp only[Option.map_none,Option.toList_none,QE,JD,Option.toList_some,Qp,List.singleton_append];exact List.perm_middle.symm
theorem mX{h:Hs}(b:k<h.length)(e:h.getD k none=none)(x:Bj)(i:Nat):(x.id::Bg h).Perm (Bg (h.set k (some (x,i)))):=by
 rw[bA b,jX b,e];simp only[Option.map_none,Option.toList_none,QE,JD,Option.toList_some,Qp,List.singleton_append];exact List.perm_middle.symm
theorem Rm{h:Hs}{p:Bj×Nat}(e:h.getD k none=some p):k<h.length/\some p∈h:=by grind
theorem Wo{h:Hs}{o:Option (Bj×Nat)}{x:Bj}(c:some (x,i)∈h.set k o):some (x,i)∈h\/o=some (x,i):=by
 have d:=List.mem_or_eq_of_mem_set c;rcases d with b|b
 ·exact .inl b
 ·exact .inr b.symm
theorem eK{h:Hs}(e:Hw h=some k):k<h.length/\h.getD k none=none:=by
 unfold Hw at e;rw[JB]at e;obtain⟨b,c,_⟩:=e;refine⟨b,?_⟩;rw[Qk,Qd b];simpa using c
theorem iV{c:DP}(o:Ki c):∀(l:List Bj) (h:Hs),Db g c ⟨l,h⟩->Db g c ⟨(BQ l h).1,(BQ l h).2⟩/\(Bg (BQ l h).2++Cr (BQ l h).1).Perm (Bg h++Cr l)
 |[],h,s=>⟨s,.refl _⟩
 |x::r,h,s=>by
  unfold BQ
  cases e:Hw h with
  |none=>exact⟨s,.refl _⟩
  |some k =>
   have b:=eK e;obtain⟨p,v⟩:=b
   have t:(Bg (h.set k (some (x,0)))++Cr r).Perm (Bg h++Cr (x::r)):=by
    refine((mX p v x 0).symm.append_right _).trans ?_;show(x.id::Bg h++Cr r).Perm (Bg h++(x.id::Cr r));exact List.perm_middle.symm
   have s':Db g c ⟨r,h.set k (some (x,0))⟩:=by
    refine⟨by simpa using s.len,by have:=s.wl;simp at this ⊢;omega,λy d=>s.wait y (QF _ d),λy i d=>?_,t.nodup_iff.2 s.ids,?_⟩
    ·have b:=Wo d;rcases b with f|f
     ·exact s.held y i f
     ·cases f;exact⟨s.wait x Qs,by have:=o.budget.1;omega⟩
    ·refine YO (λw=>?_) s.pool;have:=kS (g:=g) (W:=c.workers) (w:=w) p (some (x,0));rw[qZ]at this;dsimp only;omega
   have:=iV o r _ s';exact⟨this.1,this.2.trans t⟩
theorem zLT{c : DP}{h : Hs} : (h.getD k none = none /\ BB g c h k = (h, none)) \/ ∃ x i, h.getD k none = some (x, i) /\
    ((Ce g c (h.set k (some (x, i + 1))) = true /\ BB g c h k = (h.set k none, some (Gr x.id 250 Dw))) \/
     (Ce g c (h.set k (some (x, i + 1))) = false /\ (As g x.q (sts g x.q k (i + 1)) (CX g x.q k (i + 1))).2 = true /\ BB g c h k = (h.set k none, some (Gr x.id 0 (As g x.q (sts g x.q k (i + 1)) (CX g x.q k (i + 1))).1))) \/
     (Ce g c (h.set k (some (x, i + 1))) = false /\ (As g x.q (sts g x.q k (i + 1)) (CX g x.q k (i + 1))).2 = false /\ c.budget <= i + 1 /\ BB g c h k = (h.set k none, some (Gr x.id 251 Dw))) \/
     (Ce g c (h.set k (some (x, i + 1))) = false /\ (As g x.q (sts g x.q k (i + 1)) (CX g x.q k (i + 1))).2 = false /\ i + 1 < c.budget /\ BB g c h k = (h.set k (some (x, i + 1)), none))) := by
  unfold BB
  cases e : h.getD k none with
  | none => exact .inl ⟨rfl, rfl⟩
  | some p =>
    obtain⟨x, i⟩ := p;refine .inr ⟨x, i, rfl, ?_⟩;dsimp only;by_cases f : Ce g c (h.set k (some (x, i + 1))) = true
    · exact .inl ⟨f, by rw[if_pos f]⟩
    · right
      rw[if_neg f];have b : Ce g c (h.set k (some (x, i + 1))) = false := by simpa using f
      by_cases l : (As g x.q (sts g x.q k (i + 1)) (CX g x.q k (i + 1))).2 = true
      · exact .inl ⟨b, l, by rw[if_pos l]⟩
      · right
        rw[if_neg l];have d : (As g x.q (sts g x.q k (i + 1)) (CX g x.q k (i + 1))).2 = false := by simpa using l
        by_cases o : c.budget <= i + 1
        · exact .inl ⟨b, d, o, by rw[if_pos o]⟩
        · exact .inr ⟨b, d, by omega, by rw[if_neg o]⟩
noncomputable def Fs (g:Al) (c:DP) (h:Hs) (k:Nat):List Int:=match h.getD k none,(BB g c h k).2 with
 |some (x,_),some _=>[x.id]
 |_,_=>[]
theorem kE{c:DP}{h:Hs}{l:List Bj}(k:Nat)(s:Db g c ⟨l,h⟩):Db g c ⟨l,(BB g c h k).1⟩/\(Fs g c h k++Bg (BB g c h k).1).Perm (Bg h):=by
 have d:=zLT (g:=g) (c:=c) (h:=h) (k:=k);rcases d with⟨e,o⟩|⟨x,i,e,o⟩
 ·rw[o];refine⟨s,?_⟩;unfold Fs;rw[e];exact .refl _
 ·have d:=Rm e;obtain⟨f,v⟩:=d;have z:=s.held x i v
  have drop:∀t,BB g c h k=(h.set k none,some t)->Db g c ⟨l,(BB g c h k).1⟩/\(Fs g c h k++Bg (BB g c h k).1).Perm (Bg h):=λt A=>by
   unfold Fs;rw[A,e];refine⟨⟨by simpa using s.len,s.wl,s.wait,λy j p=>?_,?_,YO (jE f) s.pool⟩,aS f e⟩
   ·have d:=Wo p;rcases d with b|b
    ·exact s.held y j b
    ·cases b
   ·have:=((aS f e).append_right (Cr l)).nodup_iff.2 s.ids;rw[VO,JC]at this;exact this.2
  rcases o with⟨_,b⟩|⟨_,_,b⟩|⟨_,_,_,b⟩|⟨C,_,hb,b⟩
  ·exact drop _ b
  ·exact drop _ b
  ·exact drop _ b
  ·unfold Fs;rw[b,e];refine⟨⟨by simpa using s.len,s.wl,s.wait,λy j p=>?_,by rw[oY f e];exact s.ids,C⟩,by rw[oY f e];exact .refl _⟩;have d:=Wo p;rcases d with r|r
   ·exact s.held y j r
   ·cases r;exact⟨z.1,hb⟩
noncomputable def LP (g:Al) (c:DP):List Nat->Hs->List Int
 |[],_=>[]
 |k::r,h=>Fs g c h k++LP g c r (BB g c h k).1
theorem rP{l:List Bj}{id:Int}(e:EM l id=some k):∃b:k<l.length,l[k].id=id:=by
 unfold EM at e;rw[JB]at e;obtain⟨b,c,_⟩:=e;exact⟨b,by simpa using c⟩
theorem uZ{l:List Bj}{id:Int}:EM l id=none↔id∉Cr l:=by
 unfold EM Cr;rw[Ve];simp only[decide_eq_false_iff_not,Qq,not_exists,not_and]
theorem vK{h:Hs}{id:Int}(e:De h id=some k):∃x i,h.getD k none=some (x,i)/\x.id=id:=by grind[De,List.findIdx?_eq_some_iff_getElem,List.getElem?_eq_getElem]
theorem pV{h:Hs}{id:Int}:De h id=none↔id∉Bg h:=by grind[De,Bg]
theorem zP0{c:DP}{s:EV}(h:Db g c s)(id:Int):Db g c (DK s id).1 /\
  ((∃e:(DK s id).2=253,(id::(Bg (DK s id).1.held++Cr (DK s id).1.wait)).Perm (Bg s.held++Cr s.wait))\/((DK s id).2=141/\(DK s id).1=s/\id∉Bg s.held++Cr s.wait)):=by
 unfold DK
 cases e:EM s.wait id with
 |some k =>
  have d:=rP e;obtain⟨p,f⟩:=d
  have r:(id::Cr (s.wait.eraseIdx k)).Perm (Cr s.wait):=by
   unfold Cr
   have l:(s.wait[k]::s.wait.eraseIdx k).Perm s.wait:=by
    rw[Jp];have e:s.wait.take k++s.wait[k]::s.wait.drop (k+1)=s.wait:=by rw[<-JS p,JW]
    have:=XH (a:=s.wait[k]) (l₁:=s.wait.take k) (l₂:=s.wait.drop (k+1));exact this.symm.trans (by rw[e])
   have:=l.map (·.id);rw[QS,f]at this;exact this
  have b:(id::(Bg s.held++Cr (s.wait.eraseIdx k))).Perm (Bg s.held++Cr s.wait):=List.perm_middle.symm.trans (r.append_left _);refine⟨⟨h.len,?_,λx A=>h.wait x (List.mem_of_mem_eraseIdx A),h.held,?_,h.pool⟩,.inl ⟨rfl,b⟩⟩
  ·have:=h.wl;have:=List.length_eraseIdx_le s.wait k;dsimp only;omega
  ·have:=b.nodup_iff.2 h.ids;exact(JC.1 this).2
 |none =>
  dsimp only
  cases v:De s.held id with
  |some k =>
   have d:=vK v;obtain⟨x,i,p,f⟩:=d;have d:=Rm p;obtain⟨o,z⟩:=d;have r:=aS o p;rw[f]at r;have b:(id::(Bg (s.held.set k none)++Cr s.wait)).Perm (Bg s.held++Cr s.wait):=r.append_right _;refine⟨⟨by simpa using h.len,h.wl,h.wait,λy j C=>?_,(JC.1 (b.nodup_iff.2 h.ids)).2,YO (jE o) h.pool⟩,.inl ⟨rfl,b⟩⟩;have d:=Wo C;rcases d with t|t
   ·exact h.held y j t
   ·cases t
  |none =>
   refine⟨h,.inr ⟨rfl,rfl,λz=>?_⟩⟩;have d:=Qf.1 z;rcases d with l|l
   ·exact pV.1 v l
   ·exact uZ.1 e l
theorem Ng{c:DP}{s:EV}(h:Db g c s){x:Bj}(d:0<=x.id/\x.id<=2147483647):
  ((DW g c s x (Bt x.q g.n)).2=0/\(DW g c s x (Bt x.q g.n)).1=⟨s.wait++[x],s.held⟩/\Db g c ⟨s.wait++[x],s.held⟩/\x.id∉Bg s.held++Cr s.wait) \/
  ((DW g c s x (Bt x.q g.n)).2=180\/(DW g c s x (Bt x.q g.n)).2=150\/(DW g c s x (Bt x.q g.n)).2=252)/\(DW g c s x (Bt x.q g.n)).1=s:=by
 unfold DW;by_cases h0:Bt x.q g.n
 case neg=>rw[if_neg h0];exact .inr ⟨.inl rfl,rfl⟩
 rw[if_pos h0]
 cases e:De s.held x.id with
 |some k=>exact .inr ⟨.inr (.inl rfl),rfl⟩
 |none =>
  rw[if_neg (by simp)]
  cases p:EM s.wait x.id with
  |some k=>exact .inr ⟨.inr (.inl rfl),rfl⟩
  |none =>
   rw[if_neg (by simp)];by_cases l:c.queue<=s.wait.length
   ·rw[if_pos l];exact .inr ⟨.inr (.inr rfl),rfl⟩
   ·rw[if_neg l]
    have o:x.id∉Bg s.held++Cr s.wait:=λr=>by
     have f:=Qf.1 r;rcases f with b|b
     ·exact pV.1 e b
     ·exact uZ.1 p b
    refine .inl ⟨rfl,rfl,⟨h.len,by simp;omega,λy t=>?_,h.held,?_,h.pool⟩,o⟩
    ·have f:=Qf.1 t;rcases f with b|b
     ·exact h.wait y b
     ·rw[Qc]at b;subst b;exact⟨h0,d⟩
    ·show(Bg s.held++(s.wait++[x]).map (·.id)).Nodup;rw[QB,<-Qp];have:(Bg s.held++Cr s.wait++[x.id]).Perm (x.id::(Bg s.held++Cr s.wait)):=VE ..;exact this.nodup_iff.2 (JC.2 ⟨o,h.ids⟩)
def Dr (c:DP):EV:=⟨[],List.replicate c.slots none⟩
theorem zNS(n:Nat):Bg (List.replicate n none)=[]:=by
 unfold Bg;rw[List.filterMap_eq_nil_iff];intro o b;rw[(VW.1 b).2];rfl
theorem zNY(g:Al)(W n w:Nat):DC g W (List.replicate n none) w=0:=by
 rw[oI]
 have:((List.range (List.replicate n (none:Option (Bj×Nat))).length).map λk=>Ms g W w ((List.replicate n none).getD k none) k)=(List.range (List.replicate n (none:Option (Bj×Nat))).length).map λ_=>0:=by
  apply Ja;intro k _
  have:(List.replicate n (none:Option (Bj×Nat))).getD k none=none:=by
   rw[Qk,Vk];split<;>rfl
  rw[this];rfl
 rw[this];clear this;generalize (List.replicate n (none:Option (Bj×Nat))).length=m
 induction m with
 |zero=>rfl
 |succ m b=>rw[Jm,QB,XV,b];rfl
theorem UX(g:Al)(c:DP):Db g c (Dr c):=by
 refine⟨by simp[Dr],by simp[Dr],by simp[Dr],λx i h=>?_,by simp[Dr,zNS,Cr],?_⟩
 ·have:=(VW.1 h).2;cases this
 ·rw[<-Vy,aA];rintro⟨w,_,h⟩;have:DC g c.workers (Dr c).held w=0:=zNY g c.workers c.slots w;omega
section
variable {g:Al} {W:Nat} {h:Hs}
theorem aV{slot:Int}{x:AN}(h:x∈sts g q slot i):x.key.slot=slot:=by
 have b:=Sr.1 h;obtain⟨j,_,h⟩:=b;exact(SH.1 h).1
theorem U0{o:Option (Bj×Nat)}{x:AN}(h:x∈Ii g o k):x.key.slot=(k:Int):=by
 cases o with
 |none=>cases h
 |some p=>obtain⟨r,i⟩:=p;exact aV h
theorem cE(g:Al)(o:Option (Bj×Nat))(k:Nat):CJ (Ii g o k):=by
 cases o with
 |none=>exact .nil
 |some p=>obtain⟨r,i⟩:=p;exact iM _
theorem sO{x:AN}:x∈Fl g h↔∃k,k<h.length/\x∈Ii g (h.getD k none) k:=by
 unfold Fl;rw[VP];simp only[Q0]
theorem zOA(g:Al)(h:Hs):CJ (Fl g h):=by
 unfold Fl;rw[CJ,XQ];refine⟨λk _=>cE g _ k,?_⟩;exact List.pairwise_lt_range.imp λBS x b y c=>.inl (by rw[U0 b,U0 c];omega)
theorem ZS{x:AN}(b:k<h.length)(c:x.key.slot=(k:Int)):x∈Fl g h↔x∈Ii g (h.getD k none) k:=by grind[sO,U0]
theorem YU{x:AN}{o:Option (Bj×Nat)}(b:k<h.length)(c:x.key.slot≠(k:Int)):x∈Fl g (h.set k o)↔x∈Fl g h:=by grind[Fl,sO,List.length_set,U0,XF]
def Er (g:Al) (W:Nat) (h:Hs) (k:Nat):List AN:=(Fl g h).filter λx=>decide (Dt W x.key.v=k)
theorem PK{x:AN}:x∈Er g W h k↔x∈Fl g h/\Dt W x.key.v=k:=by simp[Er]
theorem TP(g:Al)(W:Nat)(h:Hs)(k:Nat):CJ (Er g W h k):=(zOA g h).filter _
theorem qX(g:Al)(W:Nat)(h:Hs)(k:Nat):(Er g W h k).length=DC g W h k:=rfl
def LL (g:Al) (W:Nat) (h:Hs) (k0:Nat) (Ls:Nat->List AN):Prop:=∀k,CJ (Ls k)/\∀x,x.key.slot≠(k0:Int)->(x∈Ls k↔x∈Er g W h k)
theorem zOC(k0:Nat):LL g W h k0 (Er g W h):=λk=>⟨TP g W h k,λ_ _=>Iff.rfl⟩
theorem LL.drop{k0:Nat}{Ls:Nat->List AN}(H:LL g W h k0 Ls)(b:k0<h.length)(k:Nat):I8 (Ls k) (k0:Int)=Er g W (h.set k0 none) k:=by
 refine CJ.uniq ((H k).1.filter _) (TP ..) λx=>?_;unfold I8;rw[QC,decide_eq_true_eq,PK];constructor
 ·rintro⟨c,d⟩;have o:=PK.1 (((H k).2 x d).1 c);obtain⟨f,p⟩:=o;exact⟨(YU b d).2 f,p⟩
 ·rintro⟨c,d⟩
  have l:x.key.slot≠(k0:Int):=λe=>by
   have f:=(ZS (h:=h.set k0 none) (by simpa using b) e).1 c;rw[XF b,if_pos rfl]at f;cases f
  exact⟨((H k).2 x l).2 (PK.2 ⟨(YU b l).1 c,d⟩),l⟩
theorem We{k0:Nat}(e:k0<h.length)(k:Nat):OE (Er g W h k) (k0:Int)=(Ii g (h.getD k0 none) k0).filter λx=>decide (Dt W x.key.v=k):=by
 refine CJ.uniq ((TP ..).filter _) ((cE ..).filter _) λx=>?_;unfold OE;simp only[QC,decide_eq_true_eq,PK];constructor
 ·rintro⟨⟨b,d⟩,c⟩;exact⟨(ZS e c).1 b,d⟩
 ·rintro⟨b,d⟩;have c:=U0 b;exact⟨⟨(ZS e c).2 b,d⟩,c⟩
theorem U6{o:Option (Bj×Nat)}{x:AN}(h:x∈Ii g o k):0<=x.key.v:=by
 cases o with
 |none=>cases h
 |some p =>
  obtain⟨r,i⟩:=p;have b:=Sr.1 h;obtain⟨j,_,h⟩:=b;have b:=SH.1 h;obtain⟨_,_,_,v,c,_⟩:=b;omega
theorem oG{v:Int}(b:1<=W):0<=Dt W v/\Dt W v<W:=by
 unfold Dt;exact⟨Vs _ (by omega),VT _ (by omega)⟩
theorem WC{k0:Nat}(c:k0<h.length)(d:1<=W):((List.range W).flatMap λk=>OE (Er g W h k) (k0:Int)).Perm (Ii g (h.getD k0 none) k0):=by
 refine(JM ?_ (cE ..).nodup).2 λx=>?_
 ·rw[Qx,XQ];refine⟨λk _=>?_,List.pairwise_lt_range.imp λBS x f y l e=>?_⟩
  ·rw[<-Qx];exact((TP ..).nodup).filter _
  ·subst e;have b:=(PK.1 (QC.1 f).1).2;have o:=(PK.1 (QC.1 l).1).2;omega
 ·rw[VP];simp only[We c,QC,decide_eq_true_eq,Q0];constructor
  ·rintro⟨k,_,b,_⟩;exact b
  ·intro b;have o:=oG (W:=W) (v:=x.key.v) d;exact⟨(Dt W x.key.v).toNat,by omega,b,by omega⟩
def Fv (g:Al) (W:Nat) (h:Hs) (l:List AN) (j:Nat) (Ls:Nat->List AN):Prop:=∀k,CJ (Ls k)/\∀x,x∈Ls k↔x∈Er g W h k\/(x∈l.take j/\Dt W x.key.v=k)
theorem zNT(l:List AN):Fv g W h l 0 (Er g W h):=λk=>⟨TP ..,λx=>by simp⟩
variable {x0:Bj} {i k0 j:Nat} {Ls:Nat->List AN}
abbrev DY (h:Hs) (k0:Nat) (x0:Bj) (i:Nat):Hs:=h.set k0 (some (x0,i+1))
theorem LZ(b:k0<h.length){x:AN}(c:x.key.slot=(k0:Int)):x∈Fl g (DY h k0 x0 i)↔x∈sts g x0.q k0 (i+1):=by
 rw[ZS (by simpa using b) c,XF b,if_pos rfl];rfl
theorem zPS(e:h.getD k0 none=some (x0,i)){x:AN}(b:x∈Fl g h):x∈Fl g (DY h k0 x0 i):=by
 have c:=Rm e;obtain⟨d,_⟩:=c;by_cases f:x.key.slot=(k0:Int)
 ·rw[LZ d f];rw[ZS d f,e]at b;have c:=Sr.1 b;obtain⟨j,o,l⟩:=c;exact Sr.2 ⟨j,by omega,l⟩
 ·exact(YU d f).2 b
theorem Fv.sub(e:h.getD k0 none=some (x0,i))(H:Fv g W h (sts g x0.q k0 (i+1)) j Ls){x:AN}(b:x∈Ls k):x∈Er g W (DY h k0 x0 i) k:=by grind[Fv,sts,Er,Rm,PK,zPS,List.mem_of_mem_take,LZ,aV]
theorem Fv.but(H:Fv g W h (sts g x0.q k0 (i+1)) j Ls):LL g W h k0 Ls:=λk=>⟨(H k).1,λx b=>by
 rw[(H k).2];exact⟨λc=>c.elim id λd=>absurd (aV (Vu d.1)) b,.inl⟩⟩
def KJ (Ls:Nat->List AN) (k:Nat) (L:List AN):Nat->List AN:=λj=>if j=k then L else Ls j
theorem Fv.put(e:h.getD k0 none=some (x0,i))(H:Fv g W h (sts g x0.q k0 (i+1)) j Ls)(I:j<(sts g x0.q k0 (i+1)).length){x:AN}(J:(sts g x0.q k0 (i+1))[j]=x)(E:ED x)(K:Dt W x.key.v=k):
  ((ER n (Ls k) x).2=140/\(ER n (Ls k) x).1=Ls k/\n<DC g W (DY h k0 x0 i) k)\/((ER n (Ls k) x).2≠140/\Fv g W h (sts g x0.q k0 (i+1)) (j+1) (KJ Ls k (ER n (Ls k) x).1)):=by
 have o:=Rm e;obtain⟨S,_⟩:=o;have p:x∈sts g x0.q k0 (i+1):=J ▸ Qa I;have r:x∈Er g W (DY h k0 x0 i) k:=PK.2 ⟨(LZ S (aV p)).2 p,K⟩;have d:(sts g x0.q k0 (i+1)).take (j+1)=(sts g x0.q k0 (i+1)).take j++[x]:=by rw[QO I,J]
 unfold ER;rw[if_pos E]
 cases L:Iz (Ls k) x.key with
 |some y =>
  right;have o:=uP (H k).1 |>.1 L;obtain⟨M,F⟩:=o;have G:y=x:=(TP ..).inj (H.sub e M) r F;subst G;refine⟨by dsimp only;decide,λc=>?_⟩;dsimp only;have t:KJ Ls k (Ls k) c=Ls c:=by unfold KJ;split<;>simp_all
  rw[t];refine⟨(H c).1,λz=>?_⟩;rw[(H c).2,d];constructor
  ·rintro(b|⟨b,f⟩)
   ·exact .inl b
   ·exact .inr ⟨QN _ b,f⟩
  ·rintro(b|⟨b,f⟩)
   ·exact .inl b
   ·have o:=Qf.1 b;rcases o with l|l
    ·exact .inr ⟨l,f⟩
    ·rw[Qc]at l;subst l;have:c=k:=by omega
     subst this;exact((H _).2 _).1 M
 |none =>
  have O:=sY.1 L;dsimp only;by_cases Q:n<=(Ls k).length
  ·left;rw[if_pos Q];refine⟨rfl,rfl,?_⟩
   have U:Ls k=(Er g W (DY h k0 x0 i) k).filter λy=>decide (y∈Ls k):=by
    refine CJ.uniq (H k).1 ((TP ..).filter _) λz=>?_;rw[QC,decide_eq_true_eq];exact⟨λC=>⟨H.sub e C,C⟩,λC=>C.2⟩
   have l:((Er g W (DY h k0 x0 i) k).filter λy=>decide (y∈Ls k)).length<(Er g W (DY h k0 x0 i) k).length:=by
    rw[List.length_filter_lt_length_iff_exists];exact⟨x,r,by simpa using λE=>O x E rfl⟩
   rw[<-U,qX]at l;omega
  ·right;rw[if_neg Q];refine⟨by dsimp only;decide,λc=>?_⟩;by_cases A:c=k
   ·subst A;have t:KJ Ls c (Hf x (Ls c)) c=Hf x (Ls c):=if_pos rfl;rw[t];refine⟨kO x (H c).1 O,λz=>?_⟩;rw[(W2 x _).mem_iff,Ql,(H c).2,d,Qf,Qc];constructor
    ·rintro(rfl|b|⟨b,f⟩)
     ·exact .inr ⟨.inr rfl,K⟩
     ·exact .inl b
     ·exact .inr ⟨.inl b,f⟩
    ·rintro(b|⟨b|b,f⟩)
     ·exact .inr (.inl b)
     ·exact .inr (.inr ⟨b,f⟩)
     ·exact .inl b
   ·have t:KJ Ls k (Hf x (Ls k)) c=Ls c:=if_neg A;rw[t];refine⟨(H c).1,λz=>?_⟩;rw[(H c).2,d,Qf,Qc];constructor
    ·rintro(b|⟨b,f⟩)
     ·exact .inl b
     ·exact .inr ⟨.inl b,f⟩
    ·rintro(b|⟨b|b,f⟩)
     ·exact .inl b
     ·exact .inr ⟨b,f⟩
     ·subst b;omega
theorem Fv.end(e:h.getD k0 none=some (x0,i))(H:Fv g W h (sts g x0.q k0 (i+1)) (sts g x0.q k0 (i+1)).length Ls):Ls=Er g W (DY h k0 x0 i):=by
 have b:=Rm e;obtain⟨d,_⟩:=b;funext k;refine CJ.uniq (H k).1 (TP ..) λx=>⟨λc=>H.sub e c,λc=>?_⟩;rw[(H k).2,Qg];have b:=PK.1 c;obtain⟨f,l⟩:=b;by_cases o:x.key.slot=(k0:Int)
 ·exact .inr ⟨(LZ d o).1 f,l⟩
 ·exact .inl (PK.2 ⟨(YU d o).1 f,l⟩)
end
theorem zQa{c:DP}{s:EV}(h:Db g c s){x:Bj}(e:s.held.getD k none=some (x,i)):Db g c ⟨s.wait,s.held.set k none⟩:=by
 have b:=Rm e;obtain⟨f,o⟩:=b;refine⟨by simpa using h.len,h.wl,h.wait,λy j l=>?_,?_,YO (jE f) h.pool⟩
 ·have b:=Wo l;rcases b with d|d
  ·exact h.held y j d
  ·cases d
 ·have:=((aS f e).append_right (Cr s.wait)).nodup_iff.2 h.ids;rw[VO,JC]at this;exact this.2
theorem sQ{α b:Type}{f:α->Option Int}{f':b->Option Int}{p:α->Bool}{c:b->Bool}{l:List α}{m:List b}{id:Int}(e:∀x,p x=decide (f x=some id))(d:∀x,c x=decide (f' x=some id))(h:l.map f=m.map f'):l.findIdx? p=m.findIdx? c:=by
 have r:l.findIdx? p=(l.map f).findIdx? λo=>decide (o=some id):=by rw[VH];congr 1;funext x;exact e x
 have t:m.findIdx? c=(m.map f').findIdx? λo=>decide (o=some id):=by rw[VH];congr 1;funext x;exact d x
 rw[r,t,h]
theorem fW{α b c:Type}{f:α->c}{f':b->c}{l:List α}{m:List b}(d:l.length=m.length)(h:∀i (h:i<l.length) (p:i<m.length),f l[i]=f' m[i]):l.map f=m.map f':=by
 apply Xg (by simpa using d);intro i e o;simp only[List.getElem_map];exact h i (by simpa using e) (by simpa using o)
def Ob (h:Hs) (k:Nat):Int:=match h.getD k none with|some (x,_)=>x.id|none=>0
theorem yK{h:Hs}:(Ar h).map (Ob h)=Bg h:=by
 unfold Ar DX Bg
 have c:∀m,m<=h.length->((List.range m).filter λk=>(h.getD k none).isSome).map (Ob h)=(h.take m).filterMap λo=>o.map (·.1.id):=by
  intro m
  induction m with
  |zero=>intro _;simp
  |succ m d =>
   intro f;have b:h.getD m none=h[m]'(by omega):=by rw[Qk,Qd (by omega),QP]
   rw[Jm,QV,QB,d (by omega),QO (by omega),XP];congr 1;rw[Vj,List.filter_nil]
   cases e:h[m]'(by omega) with
   |none=>rw[e]at b;rw[b];rfl
   |some p=>obtain⟨x,i⟩:=p;rw[e]at b;simp only[Ob,b,Option.isSome_some,if_true,QS,JP,List.filterMap_cons,List.filterMap_nil,JD]
 have:=c h.length (Qe _);rw[Qg]at this;exact this
theorem yL{h:Hs}(c:k<h.length)(e:h.getD k none=none)(x:Bj):Fl g (h.set k (some (x,0)))=Fl g h:=by
 unfold Fl;rw[Jc];congr 1;funext j;rw[XF c];by_cases b:j=k
 ·subst b;rw[if_pos rfl,e];rfl
 ·rw[if_neg b]
theorem zQ0{W:Nat}{h:Hs}(b:k<h.length)(e:h.getD k none=none)(x:Bj):Er g W (h.set k (some (x,0)))=Er g W h:=by
 funext j;unfold Er;rw[yL b e]
theorem zNC{c:DP}(o:Ki c){x:Bj}{r:List Bj}{h:Hs}(s:Db g c ⟨x::r,h⟩)(e:Hw h=some k):Db g c ⟨r,h.set k (some (x,0))⟩:=by
 have b:=eK e;obtain⟨l,p⟩:=b
 have t:(Bg (h.set k (some (x,0)))++Cr r).Perm (Bg h++Cr (x::r)):=by
  refine((mX l p x 0).symm.append_right _).trans ?_;show(x.id::Bg h++Cr r).Perm (Bg h++(x.id::Cr r));exact List.perm_middle.symm
 refine⟨by simpa using s.len,by have:=s.wl;simp at this ⊢;omega,λy d=>s.wait y (QF _ d),λy i d=>?_,t.nodup_iff.2 s.ids,?_⟩
 ·have b:=Wo d;rcases b with f|f
  ·exact s.held y i f
  ·cases f;exact⟨s.wait x Qs,by have:=o.budget.1;omega⟩
 ·refine YO (λw=>?_) s.pool;have:=kS (g:=g) (W:=c.workers) (w:=w) l (some (x,0));rw[qZ]at this;dsimp only;omega
theorem xV{k:Int}{l:List AG}:(CI k l).length<=k.toNat/\∀h∈CI k l,h∈l:=by grind[CI,Int.eq_ofNat_of_zero_le,zLB,zNu,List.mem_of_mem_take]
theorem xJ(t:Mv g)(r:Ld q g.n)(K:k<=1000){id:Int}(b:0<=id/\id<=2147483647):
  BE (BC id 0 (As g q (sts g q k i) (CX g q k i)).1) (As g q (sts g q k i) (CX g q k i)).1.hits:=by
 have z:=t.n2
 have o:∀x∈sts g q k i,0<=x.key.v/\x.key.v<200/\0<=x.d/\x.d<200:=λx e=>by
  have c:=iQ r z (by omega) e;have A:=c.1.1;unfold GU at A;omega
 have f:BE (BC id 0 Dw) Dw.hits:=⟨b,by simp[BC],by simp[BC,Dw],by simp[Dw],by simp[BC],by simp[BC,Dw],by simp[Dw],by simp[Dw]⟩;unfold As;split
 ·unfold MC;split
  ·rename_i m C;have c:=(nU.1 C).1;have p:=bT.1 c;obtain⟨x,e,y,E,_,_,_,rfl⟩:=p;have:=o x e;have:=o y E;exact⟨b,by simp[BC],by simp only[BC];omega,by simp,by simp[BC],by simp[BC],by simp,by simp⟩
  ·exact f
 split
 ·unfold HK;split
  ·exact⟨b,by simp[BC],by simp[BC],by simp,by simp[BC],by simp[BC],by simp,by simp⟩
  ·exact f
 split
 ·rename_i F;have G:=r.near F;unfold KH;split
  ·have H:=xV (k:=q.most) (l:=CO (Ac g q.words) (sts g q k i));refine⟨b,by simp[BC],by simp[BC],by dsimp only;omega,by simp[BC],λI=>?_,.inr rfl,λh J=>?_⟩
   ·refine⟨rfl,?_⟩;simpa[BC]using I
   ·have c:=H.2 h J;unfold CO at c;have p:=Qq.1 c;obtain⟨x,e,rfl⟩:=p;have:=o x (QC.1 e).1;exact⟨by show 0<=x.key.v;omega,by show x.key.v<200;omega,by show 0<=x.d;omega,by show x.d<=200;omega⟩
  ·exact f
 ·exact f
theorem lG{id b:Int}(c:0<=id/\id<=2147483647)(d:0<=b/\b<=1000):BE (BC id b Dw) Dw.hits:=
 ⟨c,d,by simp[BC,Dw],by simp[Dw],λ_=>by simp[BC,Dw],by simp[BC,Dw],by simp[Dw],by simp[Dw]⟩
section
variable {g:Al} {q:FZ}
end
section
variable {g:Al} {c:DP}
theorem xQ{h:Hs}(b:k∈Ar h):∃x i,h.getD k none=some (x,i):=by
 unfold Ar at b;have f:=dL.1 b;obtain⟨_,d⟩:=f
 cases e:h.getD k none with
 |none=>rw[e]at d;cases d
 |some p=>exact⟨p.1,p.2,rfl⟩
theorem zQY(h:Hs):(Ar h).Nodup:=List.nodup_range.filter _
end
noncomputable def DN (g:Al) (c:DP) (h:Hs) (k:Nat):Option (Int×Int×Gj):=match h.getD k none with
 |none=>none
 |some (x,i) =>
  if Ce g c (h.set k (some (x,i+1))) then some (x.id,250,Dw)
  else if(As g x.q (sts g x.q k (i+1)) (CX g x.q k (i+1))).2 then some (x.id,0,(As g x.q (sts g x.q k (i+1)) (CX g x.q k (i+1))).1)
  else if c.budget<=i+1 then some (x.id,251,Dw) else none
noncomputable def HJ (g:Al) (c:DP):List Nat->Hs->List (Int×Int×Gj)
 |[],_=>[]
 |k::r,h=>(DN g c h k).toList++HJ g c r (BB g c h k).1
noncomputable def GK (p:Int×Int×Gj):U8:=Gr p.1 p.2.1 p.2.2
section
variable {g:Al} {c:DP}
theorem rW(h:Hs)(k:Nat):(BB g c h k).2=(DN g c h k).map GK/\Fs g c h k=((DN g c h k).map (·.1)).toList:=by
 unfold Fs BB DN
 cases e:h.getD k none with
 |none=>exact⟨rfl,rfl⟩
 |some p =>
  obtain⟨x,i⟩:=p;dsimp only;split
  ·exact⟨rfl,rfl⟩
  ·split
   ·exact⟨rfl,rfl⟩
   ·split
    ·exact⟨rfl,rfl⟩
    ·exact⟨rfl,rfl⟩
theorem zNv:∀(b:List Nat) (h:Hs),(BJ g c b h).2=(HJ g c b h).map GK/\LP g c b h=(HJ g c b h).map (·.1):=by intro a;induction a<;>grind[BB,BJ,DN,HJ,GK,Fs,LP]
def Iv (g:Al) (c:DP) (h:Hs) (p:Int×Int×Gj):Prop:=
 ∃x k i,k<h.length/\h.getD k none=some (x,i)/\Ub g x/\x.id=p.1/\i+1<=c.budget/\k<=1000 /\
  (p.2=(250,Dw)\/p.2=(251,Dw) \/
   (As g x.q (sts g x.q k (i+1)) (CX g x.q k (i+1))).2=true/\p.2=(0,(As g x.q (sts g x.q k (i+1)) (CX g x.q k (i+1))).1))
theorem wP{l:List Bj}{h:Hs}(f:Ki c)(s:Db g c ⟨l,h⟩){p:Int×Int×Gj}(b:DN g c h k=some p):Iv g c h p:=by
 unfold DN at b
 cases e:h.getD k none with
 |none=>rw[e]at b;cases b
 |some q =>
  obtain⟨x,i⟩:=q;rw[e]at b;have o:=Rm e;obtain⟨d,r⟩:=o;have t:=s.held x i r;have v:=s.len;have y:=f.slots.2;dsimp only at b v d;refine⟨x,k,i,d,e,t.1,?_⟩;split at b
  ·cases b;exact⟨rfl,by omega,by omega,.inl rfl⟩
  ·split at b
   ·rename_i z;cases b;exact⟨rfl,by omega,by omega,.inr (.inr ⟨z,rfl⟩)⟩
   ·split at b
    ·cases b;exact⟨rfl,by omega,by omega,.inr (.inl rfl)⟩
    ·cases b
theorem Iv.ok(o:Mv g){h:Hs}{p:Int×Int×Gj}(t:Iv g c h p):BE (BC p.1 p.2.1 p.2.2) p.2.2.hits/\(p.2.1=0\/p.2.1=250\/p.2.1=251):=by
 obtain⟨id,l,a⟩:=p;obtain⟨x,k,i,r,e,d,rfl,_,f,b⟩:=t;rcases b with b|b|⟨_,b⟩
 ·cases b;exact⟨lG d.id (by dsimp only;decide),by simp⟩
 ·cases b;exact⟨lG d.id (by dsimp only;decide),by simp⟩
 ·cases b;exact⟨xJ o d.q.ok f d.id,by simp⟩
theorem uS(f:Ki c){l:List Bj}(P:Int×Int×Gj->Prop)(o:∀h p,Db g c ⟨l,h⟩->Iv g c h p->P p):∀(t:List Nat) (h:Hs),Db g c ⟨l,h⟩->∀p∈HJ g c t h,P p
 |[],_,_,p,d=>nomatch d
 |k::r,h,s,p,d=>by
  have v:=Qf.1 (show p∈(DN g c h k).toList++HJ g c r (BB g c h k).1 from d);rcases v with b|b
  ·cases e:DN g c h k with
   |none=>rw[e]at b;cases b
   |some q =>
    rw[e]at b;have:p=q:=by simpa using b
    subst this;exact o h p s (wP f s e)
  ·exact uS f P o r _ (kE k s).1 p b
noncomputable def Cj (g:Al) (c:DP) (s:EV):List (Int×Int×Gj):=HJ g c (Ar (BQ s.wait s.held).2) (BQ s.wait s.held).2
theorem sM(s:EV):(Ew g c s).2=(Cj g c s).map GK:=(zNv _ _).1
theorem zL0(d:Mv g)(b:Ki c){s:EV}(h:Db g c s){p:Int×Int×Gj}(e:p∈Cj g c s):BE (BC p.1 p.2.1 p.2.2) p.2.2.hits/\(p.2.1=0\/p.2.1=250\/p.2.1=251):=
 uS b _ (λ_ _ _ t=>t.ok d) _ _ (iV b s.wait s.held h).1 p e
end
section
variable {g:Al} {c:DP} {h:Hs} {k:Nat} {x:Bj} {i:Nat}
theorem oU(e:h.getD k none=some (x,i))(b:Ce g c (h.set k (some (x,i+1)))=true):DN g c h k=some (x.id,250,Dw)/\(BB g c h k).1=h.set k none:=by
 unfold DN BB;rw[e];dsimp only;rw[if_pos b,if_pos b];exact⟨rfl,rfl⟩
theorem Ww(e:h.getD k none=some (x,i))(b:Ce g c (h.set k (some (x,i+1)))=false)(hd:(As g x.q (sts g x.q k (i+1)) (CX g x.q k (i+1))).2=true):
  DN g c h k=some (x.id,0,(As g x.q (sts g x.q k (i+1)) (CX g x.q k (i+1))).1)/\(BB g c h k).1=h.set k none:=by grind[Ce,As,sts,CX,DN,BB]
theorem cR(e:h.getD k none=some (x,i))(b:Ce g c (h.set k (some (x,i+1)))=false)(hd:(As g x.q (sts g x.q k (i+1)) (CX g x.q k (i+1))).2=false)(hb:c.budget<=i+1):
  DN g c h k=some (x.id,251,Dw)/\(BB g c h k).1=h.set k none:=by grind[Ce,As,sts,CX,Dw,DN,BB]
theorem Wj(e:h.getD k none=some (x,i))(b:Ce g c (h.set k (some (x,i+1)))=false)(hd:(As g x.q (sts g x.q k (i+1)) (CX g x.q k (i+1))).2=false)(hb:¬c.budget<=i+1):
  DN g c h k=none/\(BB g c h k).1=h.set k (some (x,i+1)):=by grind[Ce,As,sts,CX,DN,BB]
end
section
variable {g:Al} {c:DP}
end
end Go.W
set_option linter.unusedSimpArgs false
namespace Go.W
open Go
open AL (enc)
variable {B N hi i j k m n:Nat} {D R:Nat -> Prop} {P:Program} {T:Cc} {a:OA} {g:Al} {q:FZ} {s:U8} {u w w':World}
section
variable {P:Program}
structure Ep (P:Program) (f:FuncId) (args:Array Value) (w:World) (R:KW) (Rp:PW):Prop where
 can:CD P f
 calls:Calls P f args w (IG R Rp)
theorem Ep.mono{f:FuncId}{args:Array Value}{R R':KW}{l b:PW}(h:Ep P f args w R l)(o:∀v w',R v w'->R' v w')(p:∀c w',l c w'->b c w'):Ep P f args w R' b:=
 ⟨h.can,h.calls.mono λe w' d=>by cases e<;>first|exact o _ _ d|exact p _ _ d|exact d⟩
theorem AO{f:FuncId}{args:Array Value}{k:KW}{d:PW}{R:KW}{l:PW}
  (h:Ep P f args w R l)(o:∀v w',R v w'->k v w')(p:∀c w',l c w'->d c w'):HG P f args k d w:=by
 rw[Wa];exact⟨h.can,h.calls.mono λe w' b=>by cases e<;>first|exact o _ _ b|exact p _ _ b|exact b.elim⟩
theorem HI(c:T.ok P=true){f:FuncId}{fn:Func}[h:AB P f fn n]{args:Array Value}{R:KW}{b:PW}(d:Nat.ble args.size n=true)
  (e:S P T n (E0 fn) (Mx P fn.results.toList R b) (KI args.toList) w)(l:Nat.ble n 4294967296=true:=by rfl)(o:T.round=false:=by rfl):Ep P f args w R b:=
 ⟨⟨fn,h.hf,h.hb,h.hm⟩,pP c o h.hf h.hn h.hb d l e⟩
theorem FA{t:TypeId}{v:Value}{k:KW}{b:PW}(h:b [{ v:=.iface t v,recovered:=false }] w):AI P (Instr.panic (.iface t v)) k b w:=by
 rw[Yv];exact h
theorem NH{e:List ResultVar}{F:Nat->Value}{c:List PanicEntry}{R:KW}{d:PW}{f:Nat->Bool}(h0:f 4294967296=false)(hd:FV (F 4294967296)=[])(h:d c w):
  ∀b,agree f F b->(Mx P e R d).pan b c w:=λb l=>by
 show HM P e R d b c w;unfold HM;rw[l _ h0,hd];exact h
theorem kP{b:Array TypeId}{ty:TypeId}{x y:Int}{k:Value->Prop}(c:k (.int .i64 (min x y))):Ap P (Builtin.min_ b ty #[.int .i64 x,.int .i64 y]) D k w:=by
 rw[Is];exact⟨.int .i64 (min x y),λw' _=>by simp[Builtin.min_,Builtin.min2];split<;>omega,c⟩
theorem VU{s d:TypeId}{kd b c:IntKind}[e:Gc P s b][hd:Gc P d kd]{n z:Int}{k:Value->Prop}(f:kd.wrap n=z)(h:k (.int kd z)):Ap P (convert s d (.int c n)) D k w:=by
 rw[Is];exact⟨.int kd z,λw' _=>by rw[rR e hd n w',f],h⟩
theorem Si{t u:TypeId}{z:Value}{sz b:Nat}[c:Ie P t][e:AX P t z sz b]{k:KW}{f:PW}(l:k (.tuple #[z,.bool false]) w):AI P (Instr.typeAssert .nilIface u t true) k f w:=by
 obtain⟨i,hi,o,_,_⟩:=info_parts e.h;have h:=c.h;unfold Np at h;refine AI.of (w':=w) ?_ l;unfold Instr.typeAssert;simp only[Qo,underlying,run_program,Qh]
 cases hd:P.underlying t with
 |none=>rw[hd]at h;cases h
 |some d =>
  rw[hd]at h;cases d<;>first|(simp[zeroValue,typeInfo,hi,o];done)|cases h
def EW:FrameMode->Value×FrameMode
 |.panicking ({ v,recovered:=false,goexit:=false }::older)=>(v,.panicking ({ v,recovered:=true }::older))
 |u=>(.nilIface,u)
structure Li (P:Program) (g:FuncId) (args:Array Value) (u:FrameMode) (w:World) (R:FrameMode->World->Prop):Prop where
 can:CD P g
 calls:CallsDIn Fence.wide 0 P g args u w λe u' w'=>match e with | .returned _=>R u' w'|_=>False
theorem SW{F:Fence}{f:FuncId}{args:Array Value}{u:FrameMode}{R R':Ending->FrameMode->World->Prop}(h:CallsDIn F n P f args u w R)(d:∀e u' w',R e u' w'->R' e u' w'):CallsDIn F n P f args u w R':=
 ⟨h.1,λc cs l b=>let ⟨e,u',w',fr,r,rest⟩:=h.2 c cs l b;⟨e,u',w',fr,d _ _ _ r,rest⟩⟩
theorem Tu{d:List ResultVar}{F:Nat->Value}{g:FuncId}{first cap:Array Value}{ds:List Deferred}{u:FrameMode}{R:KW}{f:PW}(l:u≠.run)
  (h:Li P g (first++cap) u w λu' w'=>CZ P d F ds (settle u') R f w'):CZ P d F ({ target:=.fn (.func g) cap,args:=first }::ds) u R f w:=by
 refine⟨λfn tmps o p=>⟨l,.inr ⟨(λhd=>by cases hd),.func g,cap,g,first++cap,rfl,UC h.can w,λ_ _=>trivial,SW h.calls ?_⟩⟩⟩;intro e u' w' b
 cases e with
 |returned v=>exact b.out fn tmps o p
 |panicked c=>exact b.elim
 |outgrown=>exact b.elim
def Rt (R:World->Prop):KS where
 nrm:=λF w=>FV (F 4294967296)=[]/\R w
 ext:=λ_ _ _=>False
 ret:=λF w=>FV (F 4294967296)=[]/\R w
 pan:=λ_ _ _=>False
theorem zOy(hT:T.ok P=true)(a0:T.round=false){ops:Array Oper}{rest:Code}{o:Oper}{os:List Oper}{d:Nat}{K:KS}{F:Nat->Value}{a:Act}{l:Frame}{cs:List Frame}{u:FrameMode}
  (ho:ops.toList=o::os)(hg:o.guard=none)(hd:o.dst=some d)(hdn:d<n)(hx:∀(ρ:Operand->Value) (w:World),(execOp ρ o).run P w=.ok .recover w)(hu:l.mode=u)(ha:FG n F a)
  (h:Dv P T n ops.toList os (CR F d (EW u).1) (λz w'=>S P T n rest K z w') (λz c w'=>K.pan z c w') w):
  (Code.seq (.region i ops false) rest).wpSIn Fence.wide 0 P (λe a' M w'=>K.lift n F (λ_=>true) e a' w'/\M = { l with mode:=(EW u).2 }::cs) a (l::cs) w:=by
 intro b k hb E hF x;have i0:(lone (b.atR a (.code (.seq (.region i ops false) rest)::k)) (l::cs) w).fenced P Fence.wide:=fenced_calm hF x rfl;have i1:(lone (b.atR a (.code (.region i ops false)::.code rest::k)) (l::cs) w).fenced P Fence.wide:=fenced_calm hF x rfl;have A:ops[0]? = some o:=by rw[<-Jj,ho];rfl
 have a6:ops.size=os.length+1:=by rw[<-Vc,ho];rfl
 have H:List.range ops.size=0::List.range' 1 os.length:=by rw[a6,List.range_eq_range',List.range'_succ]
 have hw:Region.wanted o (yielded ops a.tmps)=true:=by simp[Region.wanted,hg]
 have I:∀f,o.about P w a.eval=some f->Fence.wide.fn f:=λ_ _=>trivial;have i2:(lone (b.atR a (.inRegion ops (0::List.range' 1 os.length)::.code rest::k)) (l::cs) w).fenced P Fence.wide:=fenced_oper hF x A I;have a1:=stepGR_op (P:=P) (b:=b) (k:=.code rest::k) (cs:=l::cs) (w:=w) (rest:=List.range' 1 os.length) A hw;rw[E,Oper.semAt_none]at a1
 have a3:∀v,(b.atR a (.inRegion ops (0::List.range' 1 os.length)::.code rest::k)).finish v=b.atR (a.put o.dst v) (.inRegion ops (List.range' 1 os.length)::.code rest::k):=by
  intro v;rw[Frame.finish_atR,A];rfl
 have hk:(b.atR a (.inRegion ops (0::List.range' 1 os.length)::.code rest::k)).kind=.deferred:=hb;have O:=tryRecover_deferred hk (l::cs)
 have U:step P (lone (b.atR a (.inRegion ops (0::List.range' 1 os.length)::.code rest::k)) (l::cs) w) =
   .next (lone (b.atR (a.put o.dst (EW u).1) (.inRegion ops (List.range' 1 os.length)::.code rest::k)) ({ l with mode:=(EW u).2 }::cs) w):=by
  refine step_lone_go ?_;rw[a1,<-a3];simp only[Frame.atR,E]at O ⊢
  cases r:recoverD (l::cs) with
  |none =>
   have e1:(EW u)=(.nilIface,u):=by
    unfold EW;split
    ·exfalso;rename_i v older;rw[recoverD,hu]at r;cases r
    ·rfl
   have V:({ l with mode:=u }:Frame)=l:=by subst hu;rfl
   rw[e1];simp[stepG.apply,hx,O,r,V]
  |some p =>
   obtain⟨v,M⟩:=p
   have e1:(EW u).1=v/\{ l with mode:=(EW u).2 }::cs=M:=by
    simp only[recoverD]at r;split at r
    ·rename_i v' older hm;simp only[JK,Xm]at r;have a7:u=.panicking ({ v:=v',recovered:=false,goexit:=false }::older):=by rw[<-hu,hm]
     subst a7;exact⟨r.1,r.2⟩
    ·cases r
   obtain⟨e1,V⟩:=e1;rw[e1,V];simp[stepG.apply,hx,O,r]
 have a8:FG n (CR F d (EW u).1) (a.put o.dst (EW u).1):=by
  obtain⟨z,h1,_,h3⟩:=ha.put (d:=o.dst) (v:=(EW u).1) (k:=λG=>G=CR F d (EW u).1) (by
   rw[hd];show(match Nat.blt d n with|true=>_|false=>False);have:Nat.blt d n=true:=by rw[Xe];exact hdn
   rw[this])
  exact h3 ▸ h1
 have C:=sZ hT (md:=none) (by rw[a0];rfl) ops (CR F d (EW u).1) _ _ os (λ_=>false) _ w _ a8 (λ_ _=>rfl) h
 have a4:=(wpOpsIn_eq_wpListIn (F:=fw none) (n:=0) (P:=P) (ops:=ops) (Q:=LQ n (CR F d (EW u).1) (λt=>false || HQ os t) (λz w'=>S P T n rest K z w') (λz c w'=>K.pan z c w')) os 1 (λj=>by
  rw[<-Jj,ho,Xv];rfl))
 rw[<-a4]at C;have y:(fw none).room (({ l with mode:=(EW u).2 }::cs).length+1+0):=zQx none _;obtain⟨e,a',w',hq,J⟩:=wp_opsIn _ _ _ C b (.code rest::k) ({ l with mode:=(EW u).2 }::cs) E trivial y
 have L:StepsIn (Machine.fenced P Fence.wide) P (lone (b.atR a (.code (.seq (.region i ops false) rest)::k)) (l::cs) w) (lone (b.atR (a.put o.dst (EW u).1) (.inRegion ops (List.range' 1 os.length)::.code rest::k)) ({ l with mode:=(EW u).2 }::cs) w):=by
  refine .head i0 stepR_seq (.head i1 ?_ (.one i2 U));rw[<-H];exact stepR_region
 cases e with
 |normal =>
  obtain⟨z,h1,_,h3⟩:=hq;obtain⟨V,a2,w2,W,X⟩:=Tb hT rest K z w' h3 none (by rw[a0];rfl) a' h1 b k ({ l with mode:=(EW u).2 }::cs) E trivial y;have Y:StepsIn (Machine.fenced P Fence.wide) P _ _:=J;have Z:ArrivesIn (Machine.fenced P Fence.wide) P _ b k _ V a2 w2:=X;refine⟨V,a2,{ l with mode:=(EW u).2 }::cs,w2,rfl,⟨?_,rfl⟩,Ya L (Ya Y Z)⟩;cases V<;>simp only[KS.lift]at W ⊢<;>first|exact W.elim|(obtain⟨G,g1,_,g3⟩:=W;exact⟨G,g1,(λ_ ht=>by cases ht),g3⟩)
 |panic c =>
  obtain⟨z,h1,_,h3⟩:=hq;obtain⟨a5,hs⟩:=J;exact⟨.panic c,a',{ l with mode:=(EW u).2 }::cs,w',rfl,⟨⟨z,h1,(λ_ ht=>by cases ht),h3⟩,rfl⟩,Ya L ⟨a5,hs⟩⟩
 |exit i=>exact hq.elim
 |goto i=>exact hq.elim
 |ret=>exact hq.elim
 |outgrown=>exact hq.elim
theorem Li.enter(J:T.ok P=true)(E:T.round=false){g:FuncId}{fn:Func}[r:AB P g fn n]{args:Array Value}{u:FrameMode}{R:FrameMode->World->Prop}{ops:Array Oper}{rest:Code}{o:Oper}{os:List Oper}{d:Nat}
  (L:E0 fn=.seq (.region i ops false) rest)(t:fn.results.toList=[])(M:ops.toList=o::os)(O:o.guard=none)(hd:o.dst=some d)(hdn:Nat.blt d n=true)(Q:∀(ρ:Operand->Value) (w:World),(execOp ρ o).run P w=.ok .recover w)
  (U:Nat.ble args.size n=true)(V:Nat.ble n 4294967296=true)
  (h:Dv P T n ops.toList os (CR (KI args.toList) d (EW u).1) (λW w'=>S P T n rest (Rt (R (EW u).2)) W w') (λ_ _ _=>False) w):Li P g args u w R:=by
 have X:=r.hn;subst X;obtain⟨c,v⟩:=Xx.1 r.hb;have x:E0 fn=c:=by simp[E0,v]
 rw[L]at x;refine⟨⟨fn,r.hf,r.hb,r.hm⟩,callsDIn_of_wpSIn r.hf v trivial λI cs Y=>?_⟩;rw[<-x];have y:d<fn.ntmps:=by rw[Xe]at hdn;exact hdn
 have Z:=zOy J E (i:=i) (K:=Rt (R (EW u).2)) (cs:=cs) (u:=u) M O hd y Q Y (oS args fn.ntmps (Vf U) (Vf V)) h;intro b k h1 h2 h3 h4;obtain⟨e,a',F,w',hl,⟨f,z⟩,A⟩:=Z b k h1 h2 h3 h4;refine⟨e,a',F,w',hl,?_,A⟩
 have l:∀tmps:Array Value,(results fn tmps).run P w'=.ok (.tuple #[]) w':=by
  intro tmps;have:fn.results=#[]:=by apply Array.toList_inj.1;rw[t]
  simp[results,this]
 cases e<;>simp only[KS.lift,Rt]at f<;>simp only[bodyPostS]
 ·obtain⟨G,C,_,p,H⟩:=f;exact⟨by rw[C.defers];exact p,_,z,_,l _,H⟩
 ·obtain⟨G,_,_,p⟩:=f;exact p.elim
 ·obtain⟨G,C,_,p,H⟩:=f;exact⟨by rw[C.defers];exact p,_,z,_,l _,H⟩
 ·obtain⟨G,C,_,p⟩:=f;exact p.elim
end
open Go Go.Proofs
set_option maxRecDepth 10000
theorem nY:∀{l:U8} {c:UInt8},(∀x∈l,128<=x.toNat)->c.toNat<128->(FC (l++[c])↔(l=[]\/c.toNat≠0))
 |[],c,_,b=>by simp[FC,b]
 |[d],c,h,b=>by
  have hd:=h d Qs;simp[FC,b,hd]
 |d::e::r,c,h,b=>by
  have f:=nY (l:=e::r) (λx o=>h x (QF _ o)) b;have hd:=h d Qs;show(128<=d.toNat/\FC (e::(r++[c]))/\(r++[c]=[]->e.toNat≠0))↔_;rw[show e::(r++[c])=(e::r)++[c] from rfl,f];simp[hd]
theorem zOe{l t:U8}{a:Nat}{c:UInt8}(hd:s.drop a=l++c::t)(h:∀x∈l,128<=x.toNat)(o:c.toNat<128)(n:Nat):FB s a n↔(n=DG (l++[c])/\n<=2147483647/\(l=[]\/c.toNat≠0)):=by
 have d:s.drop a=(l++[c])++t:=by rw[hd];simp
 rw[pM d (GG.snoc h o) n,<-nY h o];constructor
 ·rintro⟨b,e,f⟩;exact⟨e,b,by rw[<-f];exact Yf n⟩
 ·rintro⟨b,e,f⟩;exact⟨e,b,by rw[b];exact sH f⟩
theorem TK(k:Nat):(2:Nat) ^ (7*k)=128 ^ k:=by rw[Nat.pow_mul]
theorem uC{a:Int}{b:Nat}(B:Bk w b [Ae s,.int .i64 a,.bool false] 445)(hs:s.length<=4611686018427387904):
  Sp PP 296 #[.pointer (some ⟨b,0,none⟩)] w λv w' =>
   ((∃A n:Nat,a=(A:Int)/\FB s A n/\v=.int .i64 (n:Int)/\Bk w' b [Ae s,.int .i64 ((A+(AK n).length:Nat):Int),.bool false] 445) \/
   ((∀A n:Nat,a=(A:Int)->¬FB s A n)/\∃x a':Int,v=.int .i64 x/\Bk w' b [Ae s,.int .i64 a',.bool true] 445))/\Fr (λi=>i=b) w w':=by
 have p:(⟨s.toArray⟩:ByteArray).size=s.length:=rfl;refine eN ?_;refine dQ 23 λQ e1=>tX B rfl nf (tX B rfl nf (ite (λh0=>?_) (λh0=>?_)))
 ·have U:=B.mv (w:=Q);refine rS U [.bool true] (NA _) λu2 V W _=>?_;exact⟨.inr ⟨λA n e=>by omega,0,a,rfl,V⟩,(fE w Q).trans W⟩
 refine tX B rfl nf (tX B rfl nf (ite (λX=>?_) (λX=>?_)))
 ·have U:=B.mv (w:=Q);refine rS U [.bool true] (NA _) λu2 V W _=>?_;refine⟨.inr ⟨λA n e r=>?_,0,a,rfl,V⟩,(fE w Q).trans W⟩;have:=zQq r;rw[p]at X;omega
 rw[p]at X;have F:∃A:Nat,a=(A:Int):=⟨a.toNat,by omega⟩;obtain⟨A,rfl⟩:=F;refine dQ 12 λu2 e2=>tX B rfl nf (tX B rfl nf (eQ (by rw[p];omega) (kP ?_)));refine cO 44 [2,4,5] 3 43 5 (λk v u=>∃l t:U8,v=.int .i64 (DG l:Nat)/\s.drop A=l++t/\l.length=k/\(∀x∈l,128<=x.toNat)/\AC w u) ⟨[],s.drop A,rfl,rfl,rfl,by simp,stp⟩ ?_;rintro k _ g u hk ⟨l,t,rfl,hd,G,d,e⟩;have H:s.length - A=l.length+t.length:=by have:=congrArg List.length hd;simpa using this
 have Y:DG l<128 ^ k:=by rw[<-G];exact vU l
 have hW:128 ^ k<=34359738368:=XR (by decide) hk;refine ite (λBS=>?_) (λZ=>?_)
 ·rw[p]at BS
  obtain⟨c,E,rfl⟩:∃c E,t=c::E:=by
   cases t with
   |nil=>simp at H;omega
   |cons c E=>exact⟨c,E,rfl⟩
  have I:s[A+k]? = some c:=by
   rw[<-Vz,hd,<-G];simp
  have a0:k<=4:=by omega
  have a4:128 ^ k<=268435456:=XR (by decide) a0;have a1:=c.toNat_lt;have a2:c.toNat % 128<=127:=by omega
  have a3:c.toNat % 128*128 ^ k<=127*128 ^ k:=Ji _ a2;have J:DG (l++[c])=DG l+c.toNat % 128*2 ^ (7*k):=by rw[zOx,G,TK,Nat.mul_comm]
  refine dQ 13 λu3 e3=>tX B rfl nf (tX B rfl nf (rF (A+k) (aO I (VU (z:=(c.toNat:Int)) (Se (by omega) (by omega)) ?_))));refine Kf (by omega) (by omega) ?_;refine rF (7*k) (gW (z:=((c.toNat % 128*2 ^ (7*k):Nat):Int)) (by omega) (by rw[QW];push_cast;rfl) (by rw[TK];omega) ?_);refine AI.of (v:=.int .i64 ((DG (l++[c]):Nat):Int)) (by rw[J];exact UR (by rw[TK];exact Y) (by rw[TK];omega) _) ?_;clear J;refine ite (λhc=>?_) (λhc=>?_)
  ·have f:=zOe hd d (by omega:c.toNat<128);have S:=B.mv (w:=u3);have F3:Fr (λi=>i=b) w u3:=fE w u3;refine ite (λK=>?pp) (λK=>?tt)
   case' pp =>
    have L:∀n:Nat,¬FB s A n:=λn r=>by have:=(f n).1 r;omega
   case' tt=>refine ite (λhz=>?uu) (λhz=>?rr)
   case' uu=>refine ite (λhi=>?qq) (λhi=>?ss)
   case' qq =>
    have L:∀n:Nat,¬FB s A n:=λn r=>by
     have h3:=(f n).1 r;have F:=h3.2.2;rcases F with h|h
     ·subst h;simp at G;omega
     ·omega
   case' rr =>
    have o:FB s A (DG (l++[c])):=(f _).2 ⟨rfl,by omega,.inr (by omega)⟩
   case' ss =>
    have o:FB s A (DG (l++[c])):=(f _).2 ⟨rfl,by omega,.inl (Qn (by omega))⟩
   case' pp|qq =>
    refine rS S [.bool true] (NA _) λu4 C M _=>rX C rfl (rA (rA (rS C [.int .i64 _] (HN _) λu5 B5 f5 _=>?_)));exact⟨.inr ⟨λA' n e r=>L n (Int.ofNat_inj.1 e ▸ r),_,_,rfl,B5⟩,(F3.trans M).trans f5⟩
   case' rr|ss =>
    refine rS S [.bool false] (NA _) λu4 C M _=>rX C rfl (rA ?_)
    refine Fg (y:=((A+(AK (DG (l++[c]))).length:Nat):Int)) (by
     have h5:AK (DG (l++[c]))=l++[c]:=((pM (by rw[hd];simp:s.drop A=(l++[c])++E) (GG.snoc d (by omega)) _).1 o).2.2
     rw[h5];simp;omega) (by
     have:=Lp (n:=DG (l++[c])) o.1;omega) ?_
    refine rS C [.int .i64 _] (HN _) λu5 B5 f5 _=>?_;exact⟨.inl ⟨A,_,rfl,o,rfl,B5⟩,(F3.trans M).trans f5⟩
  ·refine rA ⟨rfl,by omega,l++[c],E,rfl,by rw[hd];simp,by simp[G],λx O=>?_,stp⟩;have F:=Qf.1 O;rcases F with O|O
   ·exact d x O
   ·rw[Qc.1 O];omega
 ·rw[p]at Z;have S:=B.mv (w:=u);refine rS S [.bool true] (NA _) λu4 C M _=>?_;refine⟨.inr ⟨λA' n e r=>?_,0,_,rfl,C⟩,(fE w u).trans M⟩;have hA:A'=A:=by omega
  subst hA;refine zOd hd d ?_ n r;by_cases h5:l.length=5
  ·exact .inl h5
  ·right;exact Qn (by omega)
theorem zEV{v:Value}:Sp PP 295 #[v] w λr w'=>r=.func (.func 296) #[v] #[]/\w'=w:=by
 refine eN ?_;exact⟨rfl,rfl⟩
theorem zHi{a:Int}(h:s.length<=4611686018427387904):Sp PP 294 #[Ae s,.int .i64 a,.func (.func 295) #[] #[]] w λv w'=>mC s a v/\AC w w':=by
 refine eN ?_;refine AJ (cs:=[Ae s,.int .i64 a,.bool false]) rfl (BM λb w1 n1 l=>AA (zEV) ?_);rintro _ _ ⟨rfl,rfl⟩;refine AA (uC l h) ?_;rintro v e ⟨⟨A,n,rfl,o,rfl,c⟩|⟨d,x,r,rfl,c⟩,f⟩
 ·have p:AC w e:=n1.st f;refine rX c rfl (dQ 8 λt y=>tX c rfl nf ?_);exact⟨.inl ⟨A,n,rfl,o,rfl⟩,stp⟩
 ·have p:AC w e:=n1.st f;refine rX c rfl ?_;exact⟨.inr ⟨d,rfl⟩,stp⟩
theorem wC{a:Int}(c:s.length<=4611686018427387904):Sp PP 212 #[Ae s,.int .i64 a] w λv w'=>mC s a v/\AC w w':=by
 refine eN ?_;refine AA (zHi c) ?_;rintro v e ⟨⟨A,n,rfl,d,rfl⟩|⟨b,rfl⟩,f⟩
 ·exact⟨.inl ⟨A,n,rfl,d,rfl⟩,stp⟩
 ·exact⟨.inr ⟨b,rfl⟩,stp⟩
abbrev Cz:List PanicEntry:=[{ v:=.iface 24 (.int .i64 220),recovered:=false }]
theorem Lx{b:Bool}:Ep PP 184 #[.bool b] w (λv w'=>b=true/\v=.tuple #[]/\w'=w) (λc w'=>b=false/\c=Cz/\w'=w):=by
 refine HI Ab rfl ?_;cases b
 ·refine Hp ?_;exact FA ⟨rfl,rfl,rfl⟩
 ·exact⟨rfl,rfl,rfl⟩
theorem iZ{A b:Nat}(B:Bk w b [Ae s,.int .i64 (A:Int)] 363)(o:s.length<=4611686018427387904):
  Ep PP 182 #[.pointer (some ⟨b,0,none⟩)] w (λv w'=>∃n:Nat,FB s A n/\v=.int .i64 (n:Int)/\Bk w' b [Ae s,.int .i64 ((A+(AK n).length:Nat):Int)] 363/\Fr (λi=>i=b) w w')
   (λc w'=>c=Cz/\(∀n:Nat,¬FB s A n)/\Fr (λi=>i=b) w w'):=by
 refine HI Ab rfl ?_;refine dQ 16 λC E=>tX B rfl nf (tX B rfl nf (AA (wC (a:=(A:Int)) o) ?_));rintro v F ⟨⟨p,n,e,r,rfl⟩|⟨f,rfl⟩,l⟩
 ·have t:A=p:=Int.ofNat_inj.1 e;obtain rfl:=t;refine⟨l.e,?_⟩;refine AO Lx ?_ ?_
  ·rintro _ d ⟨_,rfl,rfl⟩;have x:=B.mv (w:=d);refine rS x [.int .i64 _] (HN _) λG y z _=>?_;exact⟨n,r,rfl,y,(fE w d).trans z⟩
  ·rintro _ d ⟨h,_⟩;cases h
 ·refine⟨l.e,?_⟩;refine AO Lx ?_ ?_
  ·rintro _ d ⟨h,_⟩;cases h
  ·rintro _ d ⟨_,rfl,rfl⟩;exact⟨rfl,λn=>f A n rfl,fE w d⟩
theorem zEv{A b:Nat}(B:Bk w b [Ae s,.int .i64 (A:Int)] 363)(o:s.length<=4611686018427387904):
  Ep PP 183 #[.pointer (some ⟨b,0,none⟩),.int .i64 (m:Int)] w (λv w'=>∃n:Nat,FB s A n/\n<=m/\v=.int .i64 (n:Int)/\Bk w' b [Ae s,.int .i64 ((A+(AK n).length:Nat):Int)] 363/\Fr (λi=>i=b) w w')
   (λc w'=>c=Cz/\(∀n:Nat,FB s A n->¬n<=m)/\Fr (λi=>i=b) w w'):=by
 refine HI Ab rfl ?_;refine AO (iZ B o) ?_ ?_
 ·rintro _ p ⟨n,d,rfl,r,e⟩;refine ite (λh=>?_) (λh=>?_)
  ·refine AO Lx ?_ ?_
   ·rintro _ x ⟨_,rfl,rfl⟩;exact⟨n,d,by omega,rfl,r,e⟩
   ·rintro _ y ⟨h,_⟩;cases h
  ·refine AO Lx ?_ ?_
   ·rintro _ y ⟨h,_⟩;cases h
   ·rintro _ x ⟨_,rfl,rfl⟩;refine⟨rfl,λk z=>?_,e⟩;obtain⟨_,t,C⟩:=d;obtain⟨_,E,f⟩:=z;have:=(Ij (C.symm.trans f)).1;omega
 ·rintro _ p ⟨rfl,l,e⟩;exact⟨rfl,λn d=>(l n d).elim,e⟩
theorem lZ{A b:Nat}(B:Bk w b [Ae s,.int .i64 (A:Int)] 363):
  Ep PP 262 #[.pointer (some ⟨b,0,none⟩)] w (λv w'=>v=.tuple #[]/\A=s.length/\AC w w') (λc w'=>c=Cz/\A≠s.length/\AC w w'):=by
 have d:(⟨s.toArray⟩:ByteArray).size=s.length:=rfl;refine HI Ab rfl ?_;refine dQ 11 λl o=>tX B rfl nf (tX B rfl nf (ite (λh=>?_) (λh=>?_)))
 ·refine AO Lx ?_ ?_
  ·rintro _ e ⟨_,rfl,rfl⟩;exact⟨Fr.refl _ _,rfl,by rw[d]at h;omega,stp⟩
  ·rintro _ f ⟨h,_⟩;cases h
 ·refine AO Lx ?_ ?_
  ·rintro _ f ⟨h,_⟩;cases h
  ·rintro _ e ⟨_,rfl,rfl⟩;exact NH rfl rfl ⟨rfl,by rw[d]at h;omega,stp⟩
def FL {α:Type} (f:U8->Option (α×U8)) (s:U8) (A:Nat) (x:α) (A':Nat):Prop:=A'<=s.length/\f (s.drop A)=some (x,s.drop A')
theorem Nj{A:Nat}(h:FB s A n):FL EF s A n (A+(AK n).length):=by grind[FB,FL,AK,List.length,List.length_drop,List.length_append,List.length_pos_iff,jH,ZI,List.drop_drop,List.drop_left]
theorem Mj{A:Nat}(h:∀n,¬FB s A n):EF (s.drop A)=none:=zPh.2 λn t b c=>h n ⟨b,t,c⟩
theorem Pr{r t:U8}(h:EF r=some (n,t)):n<=2147483647:=(ZI.1 h).1
theorem iR{A b:Nat}(B:Bk w b [Ae s,.int .i64 (A:Int),.bool false] 445)(o:s.length<=4611686018427387904):
  Sp PP 296 #[.pointer (some ⟨b,0,none⟩)] w λv w' =>
   ((∃n l:Nat,FL EF s A n l/\v=.int .i64 (n:Int)/\Bk w' b [Ae s,.int .i64 (l:Int),.bool false] 445) \/
   (EF (s.drop A)=none/\∃x p:Int,v=.int .i64 x/\Bk w' b [Ae s,.int .i64 p,.bool true] 445))/\Fr (λi=>i=b) w w':=
 (uC B o).mono λv w' ⟨h,f⟩=>⟨by
  rcases h with⟨r,n,e,c,d,t⟩|⟨c,d⟩
  ·have y:r=A:=by omega
   obtain rfl:=y;exact .inl ⟨n,_,Nj c,d,t⟩
  ·exact .inr ⟨Mj λn=>c A n rfl,d⟩,f⟩
theorem lF{A:Nat}(l:s.length<=4611686018427387904):Sp PP 212 #[Ae s,.int .i64 (A:Int)] w λv w' =>
  ((∃n d:Nat,FL EF s A n d/\v=.tuple #[.int .i64 (n:Int),.int .i64 (d:Int),.bool true])\/(EF (s.drop A)=none/\v=.tuple #[.int .i64 0,.int .i64 0,.bool false]))/\AC w w':=
 (wC l).mono λv w' ⟨h,f⟩=>⟨by
  rcases h with⟨o,n,e,b,c⟩|⟨b,c⟩
  ·have p:o=A:=by omega
   obtain rfl:=p;exact .inl ⟨n,_,Nj b,c⟩
  ·exact .inr ⟨Mj λn=>b A n rfl,c⟩,f⟩
theorem AM(s:U8):(⟨s.toArray⟩:ByteArray).size=s.length:=by simp[ByteArray.size]
theorem nR{r t:U8}(h:EF r=some (n,t)):GS r=if n<=4000/\n<=t.length then some (t.take n,t.drop n) else none:=by unfold GS;rw[h]
theorem zPj{r:U8}(h:EF r=none):GS r=none:=by unfold GS;rw[h]
theorem pT{r t:U8}(h:EF r=some (n,t)):DQ r=if n<=4000 then Af EF n t else none:=by unfold DQ;rw[h]
theorem tH{r:U8}(h:EF r=none):DQ r=none:=by unfold DQ;rw[h]
theorem zFo{A b:Nat}(B:Bk w b [Ae s,.int .i64 (A:Int),.bool false] 445)(I:s.length<=4611686018427387904):
  Sp PP 302 #[.pointer (some ⟨b,0,none⟩)] w λv w' =>
   ((∃x E,FL GS s A x E/\v=Ae x/\Bk w' b [Ae s,.int .i64 ((E:Nat):Int),.bool false] 445) \/
   (GS (s.drop A)=none/\∃F:Int,v=Ae []/\Bk w' b [Ae s,.int .i64 F,.bool true] 445))/\Fr (λi=>i=b) w w':=by
 refine eN ?_;refine AA (iR B I) ?_;rintro v w1 ⟨⟨n,d,o,rfl,h⟩|⟨p,x,F,rfl,h⟩,G⟩
 case' inr =>
  refine dQ 22 λH r=>tX h rfl nf (rS h [.bool true] (NA _) λl c f _=>?_);exact⟨.inr ⟨zPj p,_,rfl,c⟩,(G.trans (Fr.fr r.e)).trans f⟩
 have O:=Pr o.2;have t:=nR o.2;have J:=o.1;refine dQ 22 λH r=>tX h rfl nf ?_;have C:=h.mv (w:=H);have y:=G.trans (Fr.fr (D:=λi=>i=b) r.e);refine ite (λK=>?_) (λK=>?_)
 ·refine rS C [.bool true] (NA _) λl c f _=>?_;exact⟨.inr ⟨by rw[t,if_neg (by omega)],_,rfl,c⟩,y.trans f⟩
 refine tX C rfl nf (tX C rfl nf ?_);have Q:=AM s;refine rA (ite (λL=>?_) (λL=>?_))
 ·refine rS C [.bool true] (NA _) λl c f _=>?_;exact⟨.inr ⟨by rw[t,if_neg (by rw[QR];omega)],_,rfl,c⟩,y.trans f⟩
 have z:d+n<=s.length:=by omega
 refine rX C rfl (rF (d+n) (rS C [.int .i64 ((d+n:Nat):Int)] (HN _) λl c f _=>?_));have c:Bk l b [Ae s,.int .i64 ((d+n:Nat):Int),.bool false] 445:=c;refine dQ 16 λS M=>tX c rfl nf (tX c rfl nf ?_);refine rF d (tX c rfl nf (jO rfl rfl (by omega) (by omega) ?_));refine⟨.inl ⟨(s.drop d).take n,d+n,⟨z,?_⟩,?_,c.mv⟩,(y.trans f).trans (Fr.fr M.e)⟩
 ·rw[t,if_pos ⟨by omega,by rw[QR];omega⟩,VZ]
 ·exact congrArg Value.string ((Ml s d (d+n)).trans (by rw[show d+n - d=n by omega]))
theorem zN{v:Value}:Sp PP 301 #[v] w λr w'=>r=.func (.func 302) #[v] #[]/\w'=w:=by
 refine eN ?_;exact⟨rfl,rfl⟩
theorem zFn{A:Nat}(l:s.length<=4611686018427387904):Sp PP 300 #[Ae s,.int .i64 (A:Int),.func (.func 301) #[] #[]] w λv w' =>
  ((∃x c,FL GS s A x c/\v=.tuple #[Ae x,.int .i64 ((c:Nat):Int),.bool true])\/(GS (s.drop A)=none/\v=.tuple #[Ae [],.int .i64 0,.bool false]))/\AC w w':=by
 refine eN ?_;refine AJ (cs:=[Ae s,.int .i64 (A:Int),.bool false]) rfl (BM λb w1 n1 o=>AA (zN) ?_);rintro _ _ ⟨rfl,rfl⟩;refine AA (zFo o l) ?_;rintro v f ⟨⟨x,c,p,rfl,d⟩|⟨e,t,rfl,d⟩,h⟩
 ·have r:AC w f:=n1.st h;refine rX d rfl (dQ 8 λy z=>tX d rfl nf ?_);exact⟨.inl ⟨x,c,p,rfl⟩,stp⟩
 ·have r:AC w f:=n1.st h;refine rX d rfl ?_;exact⟨.inr ⟨e,rfl⟩,stp⟩
theorem nK{A:Nat}(d:s.length<=4611686018427387904):Sp PP 216 #[Ae s,.int .i64 (A:Int)] w λv w' =>
  ((∃x b,FL GS s A x b/\v=.tuple #[Ae x,.int .i64 ((b:Nat):Int),.bool true])\/(GS (s.drop A)=none/\v=.tuple #[Ae [],.int .i64 0,.bool false]))/\AC w w':=by
 refine eN ?_;refine AA (zFn d) ?_;rintro v f ⟨⟨x,b,e,rfl⟩|⟨c,rfl⟩,h⟩
 ·exact⟨.inl ⟨x,b,e,rfl⟩,stp⟩
 ·exact⟨.inr ⟨c,rfl⟩,stp⟩
def AH (l:List Nat):List Int:=l.map λn:Nat=>(n:Int)
theorem zDS{A b:Nat}(B:Bk w b [Ae s,.int .i64 (A:Int),.bool false] 445)(hs:s.length<=4611686018427387904):
  Sp PP 299 #[.pointer (some ⟨b,0,none⟩)] w λv w' =>
   ((∃l r,FL DQ s A l r/\AD w.heap.size 3 w' v (AH l)/\Bk w' b [Ae s,.int .i64 ((r:Nat):Int),.bool false] 445) \/
   (DQ (s.drop A)=none/\∃t:Int,Bk w' b [Ae s,.int .i64 t,.bool true] 445))/\Fr (λi=>i=b) w w':=by
 have a1:=B.lt;refine eN ?_;refine AA (iR B hs) ?_;rintro v w1 ⟨⟨n,L,M,rfl,C⟩|⟨c,x,t,rfl,C⟩,Q⟩
 case' inr =>
  refine rX C rfl (rS C [.bool true] (NA _) λu3 E F _=>cO 23 [2] 3 22 0 (λk v u=>k=0/\Fr (λi=>i=b) w u/\Bk u b [Ae s,.int .i64 t,.bool true] 445) ⟨rfl,Q.trans F,E⟩ ?_);rintro k v g u hk ⟨rfl,o,f⟩;refine ite (λh=>?_) (λh=>⟨.inr ⟨tH c,_,f⟩,o⟩);refine rX f rfl ?_;exact⟨.inr ⟨tH c,_,f⟩,o⟩
 have hn:=Pr M.2;have K:=pT M.2;have S:=M.1;refine rX C rfl (ite (λU=>?_) (λU=>?_))
 ·refine rS C [.bool true] (NA _) λu3 E F _=>?_;have c:DQ (s.drop A)=none:=by rw[K,if_neg (by omega)]
  refine cO 23 [2] 3 22 0 (λk v u=>k=0/\Fr (λi=>i=b) w u/\Bk u b [Ae s,.int .i64 (L:Int),.bool true] 445) ⟨rfl,Q.trans F,E⟩ ?_;rintro k v g u hk ⟨rfl,o,f⟩;refine ite (λh=>?_) (λh=>⟨.inr ⟨c,_,f⟩,o⟩);refine rX f rfl ?_;exact⟨.inr ⟨c,_,f⟩,o⟩
 rw[if_pos (by omega)]at K;refine rS C [.bool false] (NA _) λu3 E F _=>?_
 refine cO 23 [2] 3 22 n (λk v u=>Fr (λi=>i=b) w u/\((∃d r,d.length=k/\r<=s.length/\AD w.heap.size 3 u v (AH d)/\Bk u b [Ae s,.int .i64 ((r:Nat):Int),.bool false] 445/\Gl d (Af EF (n - k) (s.drop r))=Af EF n (s.drop L)) \/
   (DQ (s.drop A)=none/\∃t:Int,Bk u b [Ae s,.int .i64 t,.bool true] 445))) ⟨Q.trans F,.inl ⟨[],L,rfl,S,AD.nil _ _ _,E,by rw[bH,JF]⟩⟩ ?_
 rintro k v g u hk ⟨o,⟨d,r,hl,V,O,f,W⟩|⟨c,t,f⟩⟩
 ·refine ite (λh=>?_) (λh=>?_)
  ·refine rX f rfl (AA (iR f hs) ?_);rintro v2 u1 ⟨⟨m,A2,G,rfl,X⟩|⟨c,x,t,rfl,X⟩,y⟩
   ·have O2:=O.frc y f;refine bS (m:Int) λb4 p H _ Y=>?_;have z:w.heap.size<=p.heap.size:=by have U:=o.size;have h2:=y.size;have h3:=H.e.size;omega
    refine FT ⟨rfl,rfl⟩ (O2.up (w':=p)) Y z (by simp[AH];omega) λv5 u5 O5 I=>?_;have Z:=(X.mv (w:=p)).fro (O2.up (w':=p)) I;have a0:AD w.heap.size 3 u5 v5 (AH (d++[m])):=by rw[show AH (d++[m])=AH d++[(m:Int)] by simp[AH]];exact O5
    refine rA ⟨rfl,by omega,Fr.new ((o.trans y).trans (Fr.fr H.e)) I (λi hi=>hi.1),.inl ⟨d++[m],A2,by simp[hl],G.1,a0,Z,?_⟩⟩;rw[<-W,show n - k=(n - (k+1))+1 by omega,Sy G.2]
   ·have J:DQ (s.drop A)=none:=by
     rw[K,<-W,show n - k=(n - (k+1))+1 by omega,aE c];rfl
    refine bS (x:Int) λb4 p H _ Y=>?_;have z:w.heap.size<=p.heap.size:=by have U:=o.size;have h2:=y.size;have h3:=H.e.size;omega
    refine FT ⟨rfl,rfl⟩ ((O.frc y f).up (w':=p)) Y z (by simp[AH];omega) λv5 u5 O5 I=>?_;have Z:=(X.mv (w:=p)).fro ((O.frc y f).up (w':=p)) I (by decide);exact rA ⟨rfl,by omega,Fr.new ((o.trans y).trans (Fr.fr H.e)) I (λi hi=>hi.1),.inr ⟨J,_,Z⟩⟩
  ·have q_:k=n:=by omega
   obtain rfl:=q_;refine⟨.inl ⟨d,r,⟨V,?_⟩,O,f⟩,o⟩;rw[K,<-W,JN];simp[Af,Gl]
 ·refine ite (λh=>?_) (λh=>⟨.inr ⟨c,_,f⟩,o⟩);refine rX f rfl ?_;exact⟨.inr ⟨c,_,f⟩,o⟩
theorem zEh{v:Value}:Sp PP 298 #[v] w λr w'=>r=.func (.func 299) #[v] #[]/\w'=w:=by
 refine eN ?_;exact⟨rfl,rfl⟩
abbrev ZX (s:U8) (A:Nat) (w:World) (v:Value) (w':World):Prop:=
 ((∃l A' v',FL DQ s A l A'/\v=.tuple #[v',.int .i64 ((A':Nat):Int),.bool true]/\AD w.heap.size 3 w' v' (AH l))\/(DQ (s.drop A)=none/\v=.tuple #[.slice none 0 0,.int .i64 0,.bool false]))/\AC w w'
theorem zGl{A:Nat}(o:s.length<=4611686018427387904):Sp PP 297 #[Ae s,.int .i64 (A:Int),.func (.func 298) #[] #[]] w (ZX s A w):=by
 refine eN ?_;refine AJ (cs:=[Ae s,.int .i64 (A:Int),.bool false]) rfl (BM λb w1 n1 p=>AA (zEh) ?_);rintro _ d ⟨rfl,rfl⟩;refine AA (zDS p o) ?_;rintro v f ⟨⟨l,r,t,O,c⟩|⟨e,z,c⟩,h⟩
 ·have x:AC w f:=n1.st h;refine rX c rfl (dQ 8 λy C=>tX c rfl nf ?_);exact⟨.inl ⟨l,r,_,t,rfl,(O.up (w':=y)).mono (lz w d)⟩,stp⟩
 ·have x:AC w f:=n1.st h;refine rX c rfl ?_;exact⟨.inr ⟨e,rfl⟩,stp⟩
theorem zFm{A:Nat}(c:s.length<=4611686018427387904):Sp PP 214 #[Ae s,.int .i64 (A:Int)] w (ZX s A w):=by
 refine eN ?_;refine AA (zGl c) ?_;rintro v h ⟨⟨l,d,e,f,rfl,O⟩|⟨b,rfl⟩,o⟩
 ·exact⟨.inl ⟨l,d,e,f,rfl,O⟩,stp⟩
 ·exact⟨.inr ⟨b,rfl⟩,stp⟩
def DS (s:ByteArray):U8:=AK s.size++s.data.toList
def Lk (l:List Nat):U8:=AK l.length++l.flatMap AK
theorem qY{s:ByteArray}(h:s.size<=4000):(DS s).length<=4005:=by
 have b:s.data.toList.length=s.size:=Vc;have:=Lp (n:=s.size) (by omega);unfold DS;rw[Qb];omega
theorem zOn{l:List Nat}(h:k<l.length):(l.take (k+1)).flatMap AK=(l.take k).flatMap AK++AK l[k]:=by rw[Ci h,Jl];simp
theorem mQ{l:List Nat}(h:∀n∈l,n<=2147483647):(l.flatMap AK).length<=5*l.length:=by induction l<;>grind[AK,List.length_append,List.length_cons,Lp]
def CP (x y:Int):Int:=if x<y then -1 else if y<x then 1 else 0
def OM:List Int->Int
 |[]=>0
 |x::r=>if x=0 then OM r else x
theorem eG{x:Int}:Sp PP 202 #[.int .i64 x] w λv w'=>v=.bool false/\w'=w:=by
 refine eN ?_;refine iF (· rfl) ?_;exact⟨rfl,rfl⟩
theorem Mq{x y:Int}:Sp PP 131 #[.int .i64 x,.int .i64 y] w λv w'=>v=.int .i64 (CP x y)/\w'=w:=by
 unfold CP;refine eN ?_;refine AA (eG) ?_;rintro v w1 ⟨rfl,rfl⟩;refine AA (eG) ?_;rintro v d ⟨rfl,rfl⟩;refine ite (λb=>?_) (λb=>?_)
 ·rw[if_pos b];exact⟨rfl,rfl⟩
 rw[if_neg b];refine ite (λc=>?_) (λc=>?_)
 ·rw[if_pos c];exact⟨rfl,rfl⟩
 rw[if_neg c];exact⟨rfl,rfl⟩
theorem zO5{l:List Int}(h:k<l.length):OM (l.drop k)=if l[k]=0 then OM (l.drop (k+1)) else l[k]:=by
 rw[JS h];rfl
theorem Ws{c:Nat}{l:List Int}(h:AQ w (.slice a n c) l)(t:l.length<=1000000):Sp PP 130 #[.slice a n c] w λv w'=>v=.int .i64 (OM l)/\w'=w:=by
 have d:=h.len;obtain rfl:=d;refine eN ?_;refine cN 8 [2,5] 8 l.length (λk u=>OM (l.drop k)=OM l/\u=w) ⟨rfl,rfl⟩ ?_;rintro k g u y ⟨hd,rfl⟩;refine ite (λBS=>?_) (λp=>?_)
 ·have b:k<l.length:=by omega
  refine Bp h (x:=l[k]) (by simp) λz A r=>AF (r.cell0 rfl) ?_;have e:=zO5 b;refine ite (λf=>?_) (λo=>?_)
  ·rw[if_neg f]at e;rw[<-hd,e];exact⟨rfl,rfl⟩
  ·have o:=Q2.1 o;rw[if_pos o]at e;exact rA ⟨rfl,b,by rw[<-e,hd],rfl⟩
 ·have d:k=l.length:=by omega
  obtain rfl:=d;rw[Yh]at hd;rw[<-hd];exact⟨rfl,rfl⟩
theorem NX(x y:Int)(r:List Int):OM (CP x y::r)<0↔x<y\/x=y/\OM r<0:=by grind[OM,CP]
theorem or_nil:¬OM []<0:=by decide
theorem Lf{α:Type}{b:α->α->Int}(lt:α->α->Prop)(h:∀x y,b x y<0↔lt x y)(c:∀x,¬lt x x)(d:∀x y z,lt x y->lt y z->lt x z)(e:∀x y z,¬lt x y->¬lt y z->¬lt x z):Go.Sort.SWO (ltOf b):=
 ⟨λx=>by simpa[ltOf,h]using c x,λx y z=>by simpa[ltOf,h]using d x y z,λx y z=>by
  have:=e x y z;simp only[ltOf,decide_eq_false_iff_not,h];exact this⟩
end Go.W
namespace Go.Proofs
open Go.Shelf Tryz
def Tryz.cmpT_ren:Go.Shelf.Ren:=⟨fun|106=>135|213=>204|265=>293|n=>n,fun|9=>9|3=>3|n=>n,fun|n=>n⟩
theorem Tryz.cmpT:Go.Proofs.Lays.n106 prog Tryz.cmpT_ren:={
 mixed:=by kernel_rfl
 f106:=W.ff func135
 f213:=W.ff func204
 f265:=W.ff func293
 t3:=underlying3
 a3:=isAgg3
 z3:=sizeOf3
 v3:=zeroValue3
 t9:=underlying9
 a9:=isAgg9
 z9:=sizeOf9
 v9:=zeroValue9 }
end Go.Proofs
namespace Go.W
open Go Go.Proofs
open AL (enc)
set_option maxRecDepth 10000
variable {B N hi i j k m n:Nat} {D R:Nat -> Prop} {P:Program} {T:Cc} {a:OA} {g:Al} {q:FZ} {s:U8} {u w w':World}
theorem bE:∀(a b:U8),Lib.compareBytes a b<0↔a<b
 |[],[]=>by simp[Lib.compareBytes]
 |[],_::_=>by simp[Lib.compareBytes]
 |_::_,[]=>by simp[Lib.compareBytes]
 |a::xs,b::ys=>by
  have d:=bE xs ys;unfold Lib.compareBytes;rw[List.cons_lt_cons_iff];split
  ·rename_i h;simp[h]
  ·rename_i h;split
   ·rename_i c;have:a≠b:=by rintro rfl;exact absurd c h
    simp[h,this]
   ·rename_i c
    have:a=b:=by
     rw[UInt8.lt_iff_toNat_lt]at h c;exact UInt8.toNat.inj (by omega)
    simp[this,d]
theorem lC{a b:ByteArray}:Sp PP 135 #[.string a,.string b] w λv w'=>v=.int .i64 (Lib.compareBytes a.data.toList b.data.toList)/\w'=w:=
 ⟨⟨_,Tryz.func135,rfl,rfl⟩,(Any.strings_Compare Tryz.cmpT a b w).mono λe w' h=>by obtain⟨rfl,rfl⟩:=h;exact⟨rfl,rfl⟩⟩
instance:AL BO:=⟨2,λx=>[.int .i64 (x.f:Int),.int .i64 (x.t:Int)],λ_=>rfl,by intro x u hu;simp at hu;rcases hu with rfl|rfl<;>rfl,by decide⟩
instance:Inhabited BO:=⟨⟨0,0⟩⟩
instance:Ti PP 74 BO:=⟨by kernel_rfl,λd x y w=>⟨_,by
  rw[oB (l:=[(3,0),(3,1)]) (by kernel_rfl) (d+7)];exact ZE rfl rfl (ZE rfl rfl (qT _ _ _ _)),by cases x;cases y;simp;omega⟩⟩
structure Fa where
 n:Int
 es:SV
 ws:SV
instance:AL Fa:=⟨3,λx=>[.int .i64 x.n,.slice x.es.a x.es.n x.es.c,.slice x.ws.a x.ws.n x.ws.c],λ_=>rfl,by intro x u hu;simp at hu;rcases hu with rfl|rfl|rfl<;>rfl,by decide⟩
def MP {α:Type} [AL α] (w:World) (vs:List SV) (ls:List (List α)):Prop:=vs.length=ls.length/\∀i (h:i<vs.length) (h':i<ls.length),AQ w vs[i].v ls[i]
theorem MP.up{α:Type}[AL α][Le w w']{vs:List SV}{b:List (List α)}(h:MP w vs b):MP w' vs b:=⟨h.1,λi c d=>(h.2 i c d).up⟩
structure Kt (w:World) (x:Fa) (g:Al) (vs:List SV):Prop where
 n:x.n=(g.n:Int)
 es:AQ w (.slice x.es.a x.es.n x.es.c) g.es
 ws:AQ w (.slice x.ws.a x.ws.n x.ws.c) vs
 rows:MP w vs g.ws
 small:g.es.length<=1000000/\vs.length<=1000000/\∀l∈g.ws,l.length<=1000000
 words:∀l∈g.ws,∀s∈l,s.size<=1000000
theorem Kt.up[Le w w']{x:Fa}{vs:List SV}(h:Kt w x g vs):Kt w' x g vs:=⟨h.n,h.es.up,h.ws.up,h.rows.up,h.small,h.words⟩
theorem vL{s:ByteArray}(C:s.size<=1000000):Sp PP 78 #[.string s] w λv w'=>Am (GC s) v/\AC w w':=by
 have E:s.data.toList.length=s.size:=Vc;refine eN ?_;refine cN 7 [2,3] 6 s.size (λk u=>(∀c∈s.data.toList.take k,97<=c.toNat/\c.toNat<=122)/\AC w u) ⟨by simp,stp⟩ ?_;rintro k g u F ⟨b,e⟩;refine ite (λBS=>?_) (λz=>?_)
 ·have d:k<s.data.toList.length:=by omega
  have no:¬(97<=s.data.toList[k].toNat/\s.data.toList[k].toNat<=122)->¬GC s:=λh A=>h (A.1 _ (Qa _));refine FO (c:=s.data.toList[k]) (Qd d) (ite (λo=>⟨.f (no (by omega)),stp⟩) (λo=>?_));refine FO (c:=s.data.toList[k]) (Qd d) (ite (λp=>⟨.f (no (by omega)),stp⟩) (λp=>?_));refine rA ⟨rfl,by omega,λt l=>?_,stp⟩;rw[Ci d]at l;have r:=Qf.1 l;rcases r with l|l
  ·exact b t l
  ·rw[Qc.1 l];omega
 ·have r:k=s.size:=by omega
  obtain rfl:=r;rw[Qj (by omega)]at b;refine TN (λx=>?_) (λy=>⟨.f (λh=>?_),stp⟩)
  ·have G:s.size≠0:=λh=>x (by
    have:s.data.toList=[]:=Qn (by omega);have p:s.data=#[]:=by simpa using this
    exact congrArg ByteArray.mk p)
   refine ite (λo=>⟨.t ⟨b,by omega,by omega⟩,stp⟩) (λo=>⟨.f (λh=>by have:=h.2.2;omega),stp⟩)
  ·have:=h.2.1;rw[y]at this;exact absurd this (by decide)
theorem zGT{s:ByteArray}(b:s.size<=1000000):Sp PP 77 #[.string s] w λv w'=>Am (¬GC s) v/\AC w w':=by
 refine eN ?_;refine AA (vL b) ?_;rintro _ d ⟨⟨rfl,h⟩|⟨rfl,h⟩,e⟩
 ·exact⟨.f (λc=>c h),stp⟩
 ·exact⟨.t h,stp⟩
theorem zFd{c:Nat}{l:List ByteArray}{g:FuncId}{first cap:List Value}{p:ByteArray->Prop}(h:AQ w (.slice a n c) l)(E:l.length<=1000000)
  (z:∀r u,r∈l->Bn w u->Sp PP g (first++[Value.string r]++cap).toArray u λv u'=>Am (p r) v/\AC u u'):
  Sp PP 136 #[.slice a n c,.func (.func g) first.toArray cap.toArray] w λv w'=>((∃k:Nat,v=.int .i64 (k:Int)/\∃y∈l,p y)\/(v=.int .i64 (-1)/\∀y∈l,¬p y))/\AC w w':=by
 obtain rfl:=h.len;refine eN ?_;refine cN 9 [4,5] 8 l.length (λk u=>(∀y∈l.take k,¬p y)/\AC w u) ⟨by simp,stp⟩ ?_;rintro k F u G ⟨b,e⟩;refine ite (λBS=>?_) (λA=>?_)
 ·have f:k<l.length:=by omega
  refine Bp (h.up (w':=u)) (x:=l[k]) (by simp) λH I C=>AF (C.cell0 rfl) (AA (z l[k] u (Qa _) e.e) ?_);rintro _ J ⟨⟨rfl,o⟩|⟨rfl,o⟩,K⟩
  ·exact⟨.inl ⟨k,rfl,l[k],Qa _,o⟩,stp⟩
  ·refine rA ⟨rfl,f,λt d=>?_,stp⟩;rw[Ci f]at d;rcases Qf.1 d with d|d
   ·exact b t d
   ·rw[Qc.1 d];exact o
 ·obtain rfl:k=l.length:=by omega
  rw[Qj (Qe _)]at b;exact⟨.inr ⟨rfl,b⟩,stp⟩
theorem nQ{c:Nat}{l:List ByteArray}{g:FuncId}{first cap:List Value}{p:ByteArray->Prop}(h:AQ w (.slice a n c) l)(e:l.length<=1000000)
  (o:∀r u,r∈l->Bn w u->Sp PP g (first++[Value.string r]++cap).toArray u λv u'=>Am (p r) v/\AC u u'):
  Sp PP 76 #[.slice a n c,.func (.func g) first.toArray cap.toArray] w λv w'=>Am (∃y∈l,p y) v/\AC w w':=by
 refine eN ?_;refine AA (zFd h e o) ?_;rintro _ A ⟨⟨k,rfl,d⟩|⟨rfl,d⟩,C⟩
 ·refine ite (λb=>⟨.t d,stp⟩) (λb=>absurd b (by omega))
 ·refine ite (λb=>absurd b (by omega)) (λb=>⟨.f (λ⟨y,x,z⟩=>d y x z),stp⟩)
theorem Uj{p:Nat->Prop}(h:∀j,j<k->¬p j)(b:¬p k):∀j,j<k+1->¬p j:=by grind
theorem zDt{c:Nat}{l:List SV}{g:FuncId}{p:Nat->Prop}(h:AQ w (.slice a n c) l)(L:l.length<=1000000)
  (C:∀i (hi:i<l.length) u,Bn w u->Sp PP g #[l[i].v] u λv u'=>Am (p i) v/\AC u u'):
  Sp PP 158 #[.slice a n c,.func (.func g) #[] #[]] w λv w'=>Am (∃i,i<l.length/\p i) v/\AC w w':=by
 have E:Sp PP 219 #[.slice a n c,.func (.func g) #[] #[]] w λv w'=>((∃k:Nat,v=.int .i64 (k:Int)/\k<l.length/\p k)\/(v=.int .i64 (-1)/\∀i,i<l.length->¬p i))/\AC w w':=by
  have z:=h.len;obtain rfl:=z;refine eN ?_;refine cN 9 [4,5] 8 l.length (λk u=>(∀i,i<k->¬p i)/\AC w u) ⟨(λi hi=>by omega),stp⟩ ?_;rintro k M u A ⟨b,e⟩;refine ite (λBS=>?_) (λF=>?_)
  ·have d:k<l.length:=by omega
   refine Bp (h.up (w':=u)) (x:=l[k]) (by simp) λO Q G=>AF (G.cell0 rfl) (AA (C k d u e.e) ?_);rintro _ H ⟨⟨rfl,o⟩|⟨rfl,o⟩,I⟩
   ·exact⟨.inl ⟨k,rfl,d,o⟩,stp⟩
   ·exact rA ⟨rfl,d,Uj b o,stp⟩
  ·have z:k=l.length:=by omega
   obtain rfl:=z;exact⟨.inr ⟨rfl,b⟩,stp⟩
 refine eN ?_;refine AA E ?_;rintro _ H ⟨⟨k,rfl,A,o⟩|⟨rfl,o⟩,I⟩
 ·refine ite (λr=>⟨.t ⟨k,A,o⟩,stp⟩) (λr=>absurd r (by omega))
 ·refine ite (λr=>absurd r (by omega)) (λr=>⟨.f (λ⟨y,J,K⟩=>o y J K),stp⟩)
abbrev IJ (f:FuncId):Value:=.agg #[.func (.func f) #[] #[]]
theorem Uy:Sp PP 74 #[] w λv w'=>v=IJ 135/\AC w w':=by
 refine eN ?_;refine Ao λb w1 n1 f=>AJ (cs:=[.func (.func 135) #[] #[]]) rfl (rS f [.func (.func 135) #[] #[]] (by intro u c;simp at c;subst c;rfl) λd e h _=>?_);have l:AC w d:=n1.st h;have e:Bk d b [.func (.func 135) #[] #[]] 120:=e;exact AR rfl ⟨rfl,stp⟩
theorem gM:Sp PP 72 #[] w λv w'=>v=IJ 129/\AC w w':=by
 refine eN ?_;refine Ao λb w1 n1 f=>AJ (cs:=[.func (.func 129) #[] #[]]) rfl (rS f [.func (.func 129) #[] #[]] (by intro u c;simp at c;subst c;rfl) λd e h _=>?_);have l:AC w d:=n1.st h;have e:Bk d b [.func (.func 129) #[] #[]] 116:=e;exact AR rfl ⟨rfl,stp⟩
def YI (a b:BO):Int:=OM [CP a.f b.f,CP a.t b.t]
theorem cH(a b:BO):YI a b<0↔Dl a b:=by grind[YI,Dl,NX,or_nil]
theorem nA{a b:BO}:Sp PP 129 #[agg a,agg b] w λv w'=>v=.int .i64 (YI a b)/\Gw w w':=by
 refine eN ?_;refine BM λp w1 n1 c=>BM λbb r n2 d=>HU Ab mixed (λ_=>False) (.one 0 (.one 1 (.one 2 (.one 3 (.one 5 (.one 6 (.one 7 (.one 8 (.one 4 (.one 9 (.one 10 (.one 11 (.one 12 .nil))))))))))))) (by kernel_rfl) λx y l=>?_;refine tX c rfl nf (tX d rfl nf ?_);refine tX c rfl nf (tX d rfl nf ?_);refine AA Mq ?_;rintro v z ⟨rfl,rfl⟩;refine⟨Fr.refl _ _,?_⟩;refine AA Mq ?_;rintro v A ⟨rfl,rfl⟩;refine⟨Fr.refl _ _,?_⟩;refine PD [CP a.f b.f,CP a.t b.t] rfl (vs:=[.int .i64 (CP a.f b.f),.int .i64 (CP a.t b.t)]) rfl rfl (by decide) λC E h o=>⟨h.e,?_⟩;refine AA (Ws o (by simp)) ?_;rintro v F ⟨rfl,rfl⟩;refine⟨Fr.refl _ _,?_⟩;exact⟨rfl,n1.gw.trans (n2.gw.trans (l.trans h.gw))⟩
def Ua {α:Type} (lt:α->α->Prop) (l:List α):Prop:=∀i (h:i+1<l.length),lt l[i] l[i+1]
theorem bL{α:Type}{lt:α->α->Prop}(c:∀x y z,lt x y->lt y z->lt x z){l:List α}:Ua lt l↔l.Pairwise lt:=by
 constructor
 ·intro h;rw[QX];intro i j hi e b;have f:=Nat.exists_eq_add_of_lt b;obtain⟨d,rfl⟩:=f;clear b
  induction d with
  |zero=>exact h i e
  |succ d o=>exact c _ _ _ (o (by omega)) (h (i+d+1) e)
 ·intro h i hi;exact QX.1 h i (i+1) (by omega) hi (by omega)
theorem Mt(x y z:BO)(h:Dl x y)(k:Dl y z):Dl x z:=by unfold Dl at *;omega
theorem My(x y z:ByteArray)(h:Cs x y)(k:Cs y z):Cs x z:=List.lt_trans h k
theorem zD{c:Nat}{l:List ByteArray}(h:AQ w (.slice a n c) l)(J:l.length<=1000000):
  Sp PP 156 #[.slice a n c,IJ 135] w λv w'=>Am (l.Pairwise Cs) v/\AC w w':=by
 have d:=h.len;obtain rfl:=d;refine eN ?_;refine BM λbo w1 n1 y=>?_
 refine Gf Ab 6 [4] 5 (λv u=>∃k:Nat,v=.int .i64 ((k:Int)+1)/\(k=0\/k+1<=l.length)/\(∀i (h:i+1<l.length),i<k->Cs l[i] l[i+1])/\AC w1 u) (λv _=>l.length+1 - (Go.RowKit.intOf v).toNat) rfl
  ⟨0,rfl,.inl rfl,λi _ hi=>by omega,stp⟩ ?_
 rintro v g u ⟨k,rfl,K,b,e⟩;refine ite (λBS=>?_) (λz=>⟨.t ((bL My).1 λi hi=>b i hi (by omega)),stp⟩);have o:k+1<l.length:=by omega
 refine dQ 13 λA L=>tX y rfl nf (rF k ?_);have p:=h.up (w':=A);refine CN p (x:=l[k]) (by simp) λM O C _=>AP (C.cell0 rfl) nf (CN (i:=k+1) p (x:=l[k+1]) (by simp) λQ S E _=>AP (E.cell0 rfl) nf (AA lC ?_));rintro v U ⟨rfl,rfl⟩;refine⟨Fr.refl _ _,?_⟩;refine ite (λF=>⟨.f λG=>?_,stp⟩) (λF=>?_)
 ·have:=(bL My).2 G k o;have:=(bE _ _).2 this;omega
 ·have H:Cs l[k] l[k+1]:=(bE _ _).1 (by omega);refine rA ⟨⟨k+1,rfl,.inr (by omega),λi hi I=>?_,stp⟩,?_⟩
  ·have d:=QH i k;rcases d with r|r
   ·exact b i hi r
   ·have d:i=k:=by omega
    obtain rfl:=d;exact H
  ·show l.length+1 - (((k:Int)+1+1)).toNat<l.length+1 - (((k:Int)+1)).toNat;omega
theorem zFB{c:Nat}{l:List BO}(h:AQ w (.slice a n c) l)(L:l.length<=1000000):
  Sp PP 157 #[.slice a n c,IJ 129] w λv w'=>Am (l.Pairwise Dl) v/\AC w w':=by
 have d:=h.len;obtain rfl:=d;refine eN ?_;refine BM λbo w1 n1 A=>?_
 refine Gf Ab 6 [4] 5 (λv u=>∃k:Nat,v=.int .i64 ((k:Int)+1)/\(k=0\/k+1<=l.length)/\(∀i (h:i+1<l.length),i<k->Dl l[i] l[i+1])/\AC w1 u) (λv _=>l.length+1 - (Go.RowKit.intOf v).toNat) rfl
  ⟨0,rfl,.inl rfl,λi _ hi=>by omega,stp⟩ ?_
 rintro v g u ⟨k,rfl,M,b,e⟩;refine ite (λBS=>?_) (λC=>⟨.t ((bL Mt).1 λi hi=>b i hi (by omega)),stp⟩);have o:k+1<l.length:=by omega
 refine dQ 13 λp O=>tX A rfl nf (rF k ?_);have r:=h.up (w':=p);refine CN r (x:=l[k]) (by simp) λQ S E _=>Cg E rfl nf (CN (i:=k+1) r (x:=l[k+1]) (by simp) λU V F _=>Cg F rfl nf (AA nA ?_));rintro v G ⟨rfl,y⟩;have W:AC p G:=⟨y.ext⟩;refine⟨y.ext,?_⟩;refine ite (λH=>⟨.f λI=>?_,stp⟩) (λH=>?_)
 ·have:=(bL Mt).2 I k o;have:=(cH _ _).2 this;omega
 ·have J:Dl l[k] l[k+1]:=(cH _ _).1 (by omega);refine rA ⟨⟨k+1,rfl,.inr (by omega),λi hi K=>?_,stp⟩,?_⟩
  ·have d:=QH i k;rcases d with z|z
   ·exact b i hi z
   ·have d:i=k:=by omega
    obtain rfl:=d;exact J
  ·show l.length+1 - (((k:Int)+1+1)).toNat<l.length+1 - (((k:Int)+1)).toNat;omega
structure DL (g:Al):Prop where
 n1:1<=g.n
 n2:g.n<=200
 ne:g.es.length<=2000
 nw:g.ws.length=g.n
 ed:∀e∈g.es,e.f<g.n/\e.t<g.n
 word:∀l∈g.ws,l.length<=8/\∀s∈l,GC s
theorem Bb.chk(h:Bb g):DL g:=⟨h.ok.n1,h.ok.n2,h.ne,h.nw,h.ok.ed,h.word⟩
theorem qD:Bb g↔DL g/\g.es.Pairwise Dl/\∀l∈g.ws,l.Pairwise Cs:=
 ⟨λh=>⟨h.chk,h.er,h.wr⟩,λ⟨h,b,c⟩=>⟨⟨h.n1,h.n2,h.ed⟩,h.ne,h.nw,h.word,b,c⟩⟩
theorem rV{x:Fa}{v:Int}:Sp PP 75 #[agg x,.int .i64 v] w λr w'=>Am (0<=v/\v<x.n) r/\AC w w':=by
 refine eN ?_;refine BM λb w1 n1 e=>ite (λc=>?_) (λc=>⟨.f (λh=>c h.1),stp⟩);refine rX e rfl ?_;exact ite (λd=>⟨.t ⟨c,d⟩,stp⟩) (λd=>⟨.f (λh=>d h.2),stp⟩)
theorem gF{x:Fa}{vs:List SV}(V:Kt w x g vs):Sp PP 45 #[agg x] w λv w'=>Am (DL g) v/\AC w w':=by
 have hn:=V.n;have M:=V.es.len;have O:=V.ws.len;have Q:=V.rows.1;have A:=V.small;obtain⟨S,U,W⟩:=A;refine eN ?_;refine BM λb w1 n1 C=>rX C rfl (ite (λX=>⟨.f (λh=>by have:=h.n1;omega),stp⟩) (λX=>?_));refine rX C rfl (ite (λY=>⟨.f (λh=>by have:=h.n2;omega),stp⟩) (λY=>?_));refine rX C rfl (ite (λZ=>⟨.f (λh=>by have:=h.ne;omega),stp⟩) (λZ=>?_));refine rX C rfl (rX C rfl (ite (λh4=>⟨.f (λh=>by have:=h.nw;omega),stp⟩) (λh4=>?_)));refine rX C rfl (cN 32 [2,4] 32 g.es.length (λk u=>(∀e∈g.es.take k,e.f<g.n/\e.t<g.n)/\AC w1 u) ⟨by simp,stp⟩ ?_);rintro k gf u hk ⟨o,e⟩;refine ite (λBS=>?_) (λG=>?_)
 ·have z:k<g.es.length:=by omega
  have no:¬(g.es[k].f<g.n/\g.es[k].t<g.n)->¬DL g:=λh H=>h (H.ed _ (Qa _));refine Bp (V.es.up (w':=u)) (x:=g.es[k]) (by simp) λb2 o2 I=>Ah I rfl (Ao λb3 w3 n3 z3=>rE z3 (g.es[k]) λL F f4 _=>?_);have s4:AC u L:=n3.st f4;have F:Bk L b3 (enc g.es[k]) 74:=F;refine rG C x (rX F rfl (AA (rV (x:=x)) ?_));rintro _ w5 ⟨⟨rfl,h5⟩|⟨rfl,h5⟩,e5⟩
  case' inr=>exact⟨.f (no (by omega)),stp⟩
  refine rG C x (rX F rfl (AA (rV (x:=x)) ?_));rintro _ w6 ⟨⟨rfl,h6⟩|⟨rfl,h6⟩,e6⟩
  case' inr=>exact⟨.f (no (by omega)),stp⟩
  refine rA ⟨rfl,z,λt d=>?_,stp⟩;rw[Ci z]at d;have A:=Qf.1 d;rcases A with d|d
  ·exact o t d
  ·rw[Qc.1 d];omega
 have A:k=g.es.length:=by omega
 obtain rfl:=A;rw[Qg]at o;refine rX C rfl (cN 52 [2,6] 52 vs.length (λk u'=>(∀l∈g.ws.take k,l.length<=8/\∀s∈l,GC s)/\AC u u') ⟨by simp,stp⟩ ?_);rintro k gf u' hk ⟨c,e'⟩;refine ite (λBS=>?_) (λG=>?_)
 ·have z:k<vs.length:=by omega
  have E:k<g.ws.length:=by omega
  have no:¬(g.ws[k].length<=8/\∀s∈g.ws[k],GC s)->¬DL g:=λh H=>h (H.word _ (Qa _));refine Bp (V.ws.up (w':=u')) (x:=vs[k]) (by simp) λb2 o2 I=>AF (I.cell0 rfl) ?_;have R:=(V.rows.up (w':=u')).2 k z E;have hl:=R.len;refine ite (λh7=>⟨.f (no (by omega)),stp⟩) (λh7=>?_);refine AA (nQ (first:=[]) (cap:=[]) (p:=λs=>¬GC s) R (by omega) (λr u1 hr _=>zGT (V.words _ (Qa _) r hr))) ?_;rintro _ w5 ⟨⟨rfl,J⟩|⟨rfl,J⟩,e5⟩
  ·exact⟨.f (no λ⟨_,h⟩=>by obtain⟨y,hy,K⟩:=J;exact K (h y hy)),stp⟩
  ·refine rA ⟨rfl,z,λt d=>?_,stp⟩;rw[Ci E]at d;have A:=Qf.1 d;rcases A with d|d
   ·exact c t d
   ·rw[Qc.1 d];exact⟨by omega,λs hs=>Q2.1 λh=>J ⟨s,hs,h⟩⟩
 ·have A:k=vs.length:=by omega
  obtain rfl:=A;rw[Qj (by omega)]at c;exact⟨.t ⟨by omega,by omega,by omega,by omega,o,c⟩,stp⟩
theorem zJw{c:Nat}{l:List ByteArray}(h:AQ w (.slice a n c) l)(d:l.length<=1000000):
  Sp PP 155 #[.slice a n c] w λv w'=>Am (¬l.Pairwise Cs) v/\AC w w':=by
 refine eN ?_;refine AA Uy ?_;rintro _ w1 ⟨rfl,e⟩;refine AA (zD (h.up (w':=w1)) d) ?_;rintro _ o ⟨⟨rfl,b⟩|⟨rfl,b⟩,p⟩
 ·exact⟨.f (λh=>h b),stp⟩
 ·exact⟨.t b,stp⟩
theorem dM{x:Fa}{vs:List SV}(V:Kt w x g vs):Sp PP 99 #[agg x] w λv w'=>Am (Bb g) v/\AC w w':=by
 refine eN ?_;refine BM λb w1 n1 r=>dQ 16 λH Y=>tG r x nf (AA (gF (V.up (w':=H))) ?_);rintro _ Z ⟨⟨rfl,c⟩|⟨rfl,c⟩,C⟩
 case' inr=>exact⟨C.e,⟨.f (λh=>c h.chk),stp⟩⟩
 refine⟨C.e,?_⟩;refine tX r rfl nf (AA gM ?_);rintro _ I ⟨rfl,J⟩;refine⟨J.e,?_⟩;refine AA (zFB (V.es.up (w':=I)) V.small.1) ?_;rintro _ E ⟨⟨rfl,h5⟩|⟨rfl,h5⟩,F⟩
 case' inr=>exact⟨F.e,⟨.f (λh=>h5 h.er),stp⟩⟩
 refine⟨F.e,?_⟩;refine tX r rfl nf ?_;have y:=V.rows.up (w':=E);refine AA (zDt (p:=λi=>∃K:i<g.ws.length,¬(g.ws[i]).Pairwise Cs) (V.ws.up (w':=E)) V.small.2.1 (λi hi M L=>?_)) ?_
 ·have d:i<g.ws.length:=by rw[<-y.1];exact hi
  have O:AQ M vs[i].v g.ws[i]:=(y.2 i hi d).ext L
  exact(zJw (l:=g.ws[i]) O (V.small.2.2 _ (Qa _))).mono λv u2 ⟨o,Q⟩=>⟨by
   rcases o with⟨rfl,o⟩|⟨rfl,o⟩
   ·exact .t ⟨d,o⟩
   ·exact .f λ⟨_,S⟩=>o S,Q⟩
 rintro _ w6 ⟨⟨rfl,z⟩|⟨rfl,z⟩,G⟩
 ·refine⟨G.e,.f (λh=>?_),stp⟩;obtain⟨i,_,K,c⟩:=z;exact c (h.wr _ (Qa _))
 ·refine⟨G.e,.t (qD.2 ⟨c,h5,?_⟩),stp⟩;intro l U;have W:=QI.1 U;obtain⟨i,hi,rfl⟩:=W;have A:i<vs.length:=by have:=y.1;omega
  exact Q2.1 λX=>z ⟨i,A,hi,X⟩
section
variable {P:Program} {k:KW} {pn:PW} {w:World} {t:TypeId} {x y:Operand} {a b:ByteArray}
end
abbrev He:List PanicEntry:=[{ v:=.iface 24 (.int .i64 30),recovered:=false }]
abbrev Lw (w:World) (b:Nat) (s:U8) (A:Nat):Prop:=Bk w b [Ae s,.int .i64 (A:Int)] 218
instance:Ie PP 24:={}
theorem wQ{A b:Nat}{x:Value}{c:Nat}(B:Lw w b s A):Sp PP 213 #[.pointer (some ⟨b,0,none⟩),x,.int .i64 (c:Int),.bool true] w λv w'=>v=x/\Lw w' b s c/\Fr (λi=>i=b) w w':=by
 refine eN ?_;exact rS B [.int .i64 (c:Int)] (HN _) λw1 d e _=>⟨rfl,d,e⟩
theorem yR{p x:Value}{a:Int}:Ep PP 213 #[p,x,.int .i64 a,.bool false] w (λ_ _=>False) (λc w'=>c=He/\w'=w):=by
 refine HI Ab rfl ?_;exact Hp (FA ⟨rfl,rfl⟩)
theorem zGh{A b:Nat}{x:Value}{c:Nat}(B:Lw w b s A):Sp PP 215 #[.pointer (some ⟨b,0,none⟩),x,.int .i64 (c:Int),.bool true] w λv w'=>v=x/\Lw w' b s c/\Fr (λi=>i=b) w w':=by
 refine eN ?_;exact rS B [.int .i64 (c:Int)] (HN _) λw1 d e _=>⟨rfl,d,e⟩
theorem zGg{p x:Value}{a:Int}:Ep PP 215 #[p,x,.int .i64 a,.bool false] w (λ_ _=>False) (λc w'=>c=He/\w'=w):=by
 refine HI Ab rfl ?_;exact Hp (FA ⟨rfl,rfl⟩)
theorem zFj{A b:Nat}{x:Value}{c:Nat}(B:Lw w b s A):Sp PP 217 #[.pointer (some ⟨b,0,none⟩),x,.int .i64 (c:Int),.bool true] w λv w'=>v=x/\Lw w' b s c/\Fr (λi=>i=b) w w':=by
 refine eN ?_;exact rS B [.int .i64 (c:Int)] (HN _) λw1 d e _=>⟨rfl,d,e⟩
theorem zFi{p x:Value}{a:Int}:Ep PP 217 #[p,x,.int .i64 a,.bool false] w (λ_ _=>False) (λc w'=>c=He/\w'=w):=by
 refine HI Ab rfl ?_;exact Hp (FA ⟨rfl,rfl⟩)
theorem fM{A b:Nat}(B:Lw w b s A)(r:s.length<=4611686018427387904):
  Ep PP 148 #[.pointer (some ⟨b,0,none⟩)] w (λv w'=>∃n d:Nat,FL EF s A n d/\v=.int .i64 (n:Int)/\Lw w' b s d/\Fr (λi=>i=b) w w')
   (λc w'=>c=He/\EF (s.drop A)=none/\Fr (λi=>i=b) w w'):=by
 refine HI Ab rfl ?_;refine dQ 16 λw1 z=>tX B rfl nf (tX B rfl nf ?_);refine AA (lF (A:=A) r) ?_;rintro _ l ⟨⟨n,d,t,rfl⟩|⟨f,rfl⟩,o⟩
 ·refine⟨o.e,?_⟩;refine AA (wQ (B.mv (w:=l))) ?_;rintro _ p ⟨rfl,x,y⟩;exact⟨n,d,t,rfl,x,(fE w l).trans y⟩
 ·refine⟨o.e,?_⟩;refine AO yR (λ_ _ h=>h.elim) ?_;rintro _ p ⟨rfl,rfl⟩;exact⟨rfl,f,fE w p⟩
theorem zFk{A b:Nat}(B:Lw w b s A)(y:s.length<=4611686018427387904):
  Ep PP 149 #[.pointer (some ⟨b,0,none⟩)] w (λv w'=>∃(l:List Nat) (d:Nat),FL DQ s A l d/\AD w.heap.size 3 w' v (AH l)/\Lw w' b s d/\Fr (λi=>i=b) w w')
   (λc w'=>c=He/\DQ (s.drop A)=none/\Fr (λi=>i=b) w w'):=by
 refine HI Ab rfl ?_;refine dQ 16 λw1 E=>tX B rfl nf (tX B rfl nf ?_);refine AA (zFm (A:=A) y) ?_;rintro _ o ⟨⟨l,d,F,z,rfl,O⟩|⟨f,rfl⟩,p⟩
 ·refine⟨p.e,?_⟩;have r:=B.mv (w:=o);refine AA (zGh r) ?_;rintro _ t ⟨rfl,C,x⟩;exact⟨l,d,z,(O.frc x r).mono (lz w w1),C,(fE w o).trans x⟩
 ·refine⟨p.e,?_⟩;refine AO zGg (λ_ _ h=>h.elim) ?_;rintro _ t ⟨rfl,rfl⟩;exact⟨rfl,f,fE w t⟩
theorem yB{A b:Nat}(B:Lw w b s A)(r:s.length<=4611686018427387904):
  Ep PP 151 #[.pointer (some ⟨b,0,none⟩)] w (λv w'=>∃(x:U8) (d:Nat),FL GS s A x d/\v=Ae x/\Lw w' b s d/\Fr (λi=>i=b) w w')
   (λc w'=>c=He/\GS (s.drop A)=none/\Fr (λi=>i=b) w w'):=by
 refine HI Ab rfl ?_;refine dQ 16 λw1 C=>tX B rfl nf (tX B rfl nf ?_);refine AA (nK (A:=A) r) ?_;rintro _ l ⟨⟨x,d,t,rfl⟩|⟨f,rfl⟩,o⟩
 ·refine⟨o.e,?_⟩;refine AA (zFj (B.mv (w:=l))) ?_;rintro _ p ⟨rfl,y,z⟩;exact⟨x,d,t,rfl,y,(fE w l).trans z⟩
 ·refine⟨o.e,?_⟩;refine AO zFi (λ_ _ h=>h.elim) ?_;rintro _ p ⟨rfl,rfl⟩;exact⟨rfl,f,fE w p⟩
theorem gK{A b:Nat}(B:Lw w b s A)(L:A<=s.length)(M:s.length<=4611686018427387904):
  Ep PP 150 #[.pointer (some ⟨b,0,none⟩),.int .i64 (n:Int),.int .i64 8,.func (.func 151) #[] #[]] w
   (λv w'=>∃(l:List (U8)) (f:Nat),n<=8/\FL (Af GS n) s A l f/\AD w.heap.size 9 w' v (l.map AS)/\Lw w' b s f/\Fr (λi=>i=b) w w')
   (λc w'=>c=He/\(n<=8->Af GS n (s.drop A)=none)/\Fr (λi=>i=b) w w'):=by
 refine HI Ab rfl ?_;refine ite (λh=>?_) (λh=>?_)
 ·exact Hp (FA ⟨rfl,λQ=>by omega,Fr.refl _ _⟩)
 refine cO 15 [] 9 15 n (λk v u=>Fr (λi=>i=b) w u/\∃d f,d.length=k/\f<=s.length/\AD w.heap.size 9 u v (d.map AS)/\Lw u b s f/\Gl d (Af GS (n - k) (s.drop f))=Af GS n (s.drop A))
  ⟨Fr.refl _ _,[],A,rfl,L,AD.nil _ _ _,B,by rw[bH,JF]⟩ ?_
 rintro k v g u hk ⟨r,d,f,S,y,O,z,C⟩;refine ite (λBS=>?_) (λU=>?_)
 ·have o:n - k=(n - (k+1))+1:=by omega
  refine AO (yB z M) ?_ ?_
  ·rintro _ V ⟨x,W,H,rfl,X,p⟩;have I:=O.frc p z;refine bS (AS x) λb4 t J _ Y=>?_;have E:w.heap.size<=t.heap.size:=by have h1:=r.size;have Q:=p.size;have h3:=J.e.size;omega
   refine FT ⟨rfl,rfl⟩ (I.up (w':=t)) Y E (by simp;omega) λZ u5 O5 K=>?_;have B5:=(X.mv (w:=t)).fro (I.up (w':=t)) K;have F:AD w.heap.size 9 u5 Z ((d++[x]).map AS):=by rw[QB];exact O5
   refine rA ⟨rfl,by omega,Fr.new ((r.trans p).trans (Fr.fr J.e)) K (λi hi=>hi.1),d++[x],W,by simp[S],H.1,F,B5,?_⟩;rw[<-C,o,Sy H.2]
  ·rintro _ V ⟨rfl,G,p⟩;refine⟨rfl,λ_=>?_,r.trans p⟩;rw[<-C,o,aE G];rfl
 ·have q_:k=n:=by omega
  obtain rfl:=q_;refine⟨d,f,by omega,⟨y,?_⟩,O,z,r⟩;rw[<-C,JN];simp[Af,Gl]
section
variable {P:Program} {k:KW} {pn:PW} {w:World}
theorem Hv{t:TypeId}[b:Lh P t]{s:ByteArray}{y:Value}(c:y=.int .i64 hi)(f:hi<=s.size)(d:k (.string (s.extract 0 hi)) w):AI P (Instr.sliceAt t (.string s) none (some y) none) k pn w:=by
 subst c;have e:(0:Int)<=(hi:Int)/\(hi:Int)<=(s.size:Int):=by omega
 refine AI.of (w':=w) ?_ d;unfold Instr.sliceAt;simp only[Qo,PC b.h,Qh];unfold Instr.slice;simp[Qo,PC b.h,Qh,Instr.sliceBounds,Instr.sliceBound,asIntOf,e];exact λh=>absurd h (by omega)
theorem LC{t:TypeId}[b:Lh P t]{s:ByteArray}{lo:Nat}{y:Value}(c:y=.int .i64 lo)(f:lo<=s.size)(d:k (.string (s.extract lo s.size)) w):AI P (Instr.sliceAt t (.string s) (some y) none none) k pn w:=by
 subst c;have e:(0:Int)<=(lo:Int)/\(lo:Int)<=(s.size:Int):=by omega
 refine AI.of (w':=w) ?_ d;unfold Instr.sliceAt;simp only[Qo,PC b.h,Qh];unfold Instr.slice;simp[Qo,PC b.h,Qh,Instr.sliceBounds,Instr.sliceBound,asIntOf,e];exact λh=>absurd h (by omega)
end
abbrev MM:Fa:=⟨0,⟨none,0,0⟩,⟨none,0,0⟩⟩
theorem zR{p:U8}:Sp PP 275 #[Ae s,Ae p] w λv w'=>Am (p <+: s) v/\w'=w:=by
 have e:=AM s;have b:=AM p;refine eN ?_;refine ite (λc=>?_) (λc=>⟨.f (λh=>?_),rfl⟩)
 ·refine Hv (hi:=(⟨p.toArray⟩:ByteArray).size) rfl (by omega) ?_;refine DJ (λh=>⟨.t ?_,rfl⟩) (λh=>⟨.f (λd=>h ?_),rfl⟩)
  ·rw[Ml,b]at h;have:=SC h;rw[Jf,JF]at this;rw[<-this];exact List.take_prefix _ _
  ·obtain⟨t,rfl⟩:=d;rw[Ml,b];simp
 ·have:=h.length_le;omega
theorem fX{p:U8}:Sp PP 125 #[Ae s,Ae p] w λv w'=>((p <+: s/\v=.tuple #[Ae (s.drop p.length),.bool true])\/(¬p <+: s/\v=.tuple #[Ae s,.bool false]))/\w'=w:=by
 have d:=AM s;have f:=AM p
 have h:Sp PP 199 #[Ae s,Ae p] w λv w'=>((p <+: s/\v=.tuple #[Ae (s.drop p.length),.bool true])\/(¬p <+: s/\v=.tuple #[Ae s,.bool false]))/\w'=w:=by
  refine eN ?_;refine AA zR ?_;rintro _ _ ⟨⟨rfl,c⟩|⟨rfl,c⟩,rfl⟩
  ·have l:=c.length_le
   have e:(⟨s.toArray⟩:ByteArray).extract (⟨p.toArray⟩:ByteArray).size (⟨s.toArray⟩:ByteArray).size=⟨(s.drop p.length).toArray⟩:=by
    rw[f,d,Ml,<-QR,Qg]
   refine LC (lo:=(⟨p.toArray⟩:ByteArray).size) rfl (by omega) ?_;exact⟨.inl ⟨c,congrArg (λb=>Value.tuple #[.string b,.bool true]) e⟩,rfl⟩
  ·exact⟨.inr ⟨c,rfl⟩,rfl⟩
 refine eN ?_;refine AA h ?_;rintro _ _ ⟨⟨c,rfl⟩|⟨c,rfl⟩,rfl⟩
 ·exact⟨.inl ⟨c,rfl⟩,rfl⟩
 ·exact⟨.inr ⟨c,rfl⟩,rfl⟩
theorem qP{bx be:Nat}:Li PP 147 #[.pointer (some ⟨bx,0,none⟩),.pointer (some ⟨be,0,none⟩)] .returning w λu' w'=>u'=.returning/\w'=w:=by
 refine Li.enter Ab rfl rfl rfl rfl rfl rfl rfl (λ_ _=>rfl) rfl rfl ?_;refine Si ?_;exact⟨rfl,rfl,rfl⟩
theorem rK{bx be:Nat}{x:Fa}{e:Int}(f:Bk w bx (enc x) 35)(l:Bk w be [.int .i64 e] 24)(b:¬be=bx):
  Li PP 147 #[.pointer (some ⟨bx,0,none⟩),.pointer (some ⟨be,0,none⟩)] (.panicking He) w λu' w'=>settle u'=.returning/\Bk w' bx (enc MM) 35/\Bk w' be [.int .i64 30] 24/\Fr (λi=>i=bx\/i=be) w w':=by
 refine Li.enter Ab rfl rfl rfl rfl rfl rfl rfl (λ_ _=>rfl) rfl rfl ?_;refine Te (AJ (cs:=enc MM) rfl (rE f MM λr o c _=>rS (l.fr c b) [.int .i64 30] (HN _) λt p d _=>?_));exact⟨rfl,rfl,o.fr d (λh=>b h.symm),p,(c.mono λi _ hi=>.inl hi).trans (d.mono λi _ hi=>.inr hi)⟩
theorem vV{α:Type}{f:U8->Option (α×U8)}{P:α->Prop}(h:∀r x t,f r=some (x,t)->P x):∀(n:Nat) (r:U8) (l:List α) (t:U8),Af f n r=some (l,t)->l.length=n/\∀x∈l,P x:=by intro a;induction a<;>grind[Af]
theorem zOh{r t:U8}{x:U8}(h:GS r=some (x,t)):x.length<=4000:=by grind[GS]
theorem rZ{r t:U8}{l:List Nat}(h:DQ r=some (l,t)):l.length<=4000:=by
 unfold DQ at h;split at h
 ·split at h
  ·have:=(vV (P:=λ_=>True) (λ_ _ _ _=>trivial) _ _ _ _ h).1;omega
  ·cases h
 ·cases h
theorem qM{r t:U8}{l:List (U8)}(h:EJ r=some (l,t)):l.length<=8/\∀x∈l,x.length<=4000:=by
 unfold EJ at h;split at h
 ·split at h
  ·have:=vV (P:=λx:U8=>x.length<=4000) (λ_ _ _ h=>zOh h) _ _ _ _ h;exact⟨by omega,this.2⟩
  ·cases h
 ·cases h
abbrev YT (p:List Nat×List (U8)):Prop:=p.1.length<=4000/\p.2.length<=8/\∀x∈p.2,x.length<=4000
theorem eC{r t:U8}{p:List Nat×List (U8)}(h:GP r=some (p,t)):YT p:=by grind[GP,rZ,qM]
theorem nE:∀(b:List (List Nat)) (v:Nat),(∀l∈b,l.length<=4000)->(BF v b).length<=b.length*4000:=by intro a;induction a<;>grind[BF]
def Bl (B:Nat) (w:World) (vs:List SV) (ls:List (List ByteArray)):Prop:=vs.length=ls.length/\∀i (h:i<vs.length) (h':i<ls.length),AD B 9 w vs[i].v ls[i]
theorem Bl.v{vs:List SV}{b:List (List ByteArray)}(h:Bl B w vs b):MP w vs b:=⟨h.1,λi c d=>(h.2 i c d).sl⟩
theorem Bl.up[Le w w']{vs:List SV}{b:List (List ByteArray)}(h:Bl B w vs b):Bl B w' vs b:=⟨h.1,λi c d=>(h.2 i c d).up⟩
theorem Bl.frc{d:TypeId}{vs:List SV}{e:List (List ByteArray)}{b:Nat}{cs:List Value}(h:Bl B w vs e)(f:Fr (λi=>i=b) w w')(k:Bk w b cs d)(c:9≠d:=by decide):Bl B w' vs e:=⟨h.1,λi l o=>(h.2 i l o).frc f k c⟩
theorem Bl.fro{c:Type}[AL c]{C:Nat}{d:TypeId}{e:Value}{l':List c}{vs:List SV}{l:List (List ByteArray)}(h:Bl B w vs l)(k:AD C d w e l')(f:Fr (AV C e) w w')(b:9≠d:=by decide):Bl B w' vs l:=⟨h.1,λi o p=>(h.2 i o p).fro k f b⟩
theorem Bl.add{vs:List SV}{b:List (List ByteArray)}(h:Bl B w vs b){v:SV}{l:List ByteArray}(O:AD B 9 w v.v l):Bl B w (vs++[v]) (b++[l]):=by
 refine⟨by simp[h.1],λi c d=>?_⟩;have e:=h.1;rw[VR,VR];by_cases hi:i<vs.length
 ·rw[dif_pos hi,dif_pos (by omega)];exact h.2 i hi (by omega)
 ·rw[dif_neg hi,dif_neg (by omega)];simp only[List.getElem_singleton];exact O
abbrev Ai (ps:List (List Nat×List (U8))):List (List Nat):=ps.map λp=>p.1
abbrev Mo (s:U8) (w:World) (v:Value) (w':World):Prop:=
 ((∃g x vs,Ef s=some g/\v=.tuple #[agg x,.int .i64 0]/\Kt w' x g vs)\/(Ef s=none/\v=.tuple #[agg MM,.int .i64 30]))/\AC w w'
structure PaJ (w:World) (s:U8) (bg be br N:Nat) (u:World) (es:List BO) (A:Nat) (ea:OA) (ec:Nat) (wa:OA) (wc:Nat) (vs:List SV) (ws:List (List ByteArray)):Prop where
 rd:Lw u br s A
 g:Bk u bg [.int .i64 (N:Int),.slice ea es.length ec,.slice wa vs.length wc] 35
 e:Bk u be [.int .i64 0] 24
 es:AD w.heap.size 74 u (.slice ea es.length ec) es
 wo:AD w.heap.size 28 u (.slice wa vs.length wc) vs
 rows:Bl w.heap.size u vs ws
 st:AC w u
abbrev Dj (ps:List (List Nat×List (U8))):List (List ByteArray):=ps.map λp=>p.2.map AS
structure iI (w:World) (s:U8) (bg be br N A1 k:Nat) (u:World) (es:List BO) (ps:List (List Nat×List (U8))) (A:Nat) (ea:OA) (ec:Nat) (wa:OA) (wc:Nat) (vs:List SV):Prop extends PaJ w s bg be br N u es A ea ec wa wc vs (Dj ps) where
 len:ps.length=k
 at':A<=s.length
 pre:Gl ps (Af GP (N - k) (s.drop A))=Af GP N (s.drop A1)
 sm:∀p∈ps,YT p
section
variable {w:World} {s:U8} {bg be br N:Nat} {u u':World} {es:List BO} {A:Nat} {ea:OA} {ec:Nat} {wa:OA} {wc:Nat} {vs:List SV} {ws:List (List ByteArray)}
theorem PaJ.up[Le u u'][AC u u'](J:PaJ w s bg be br N u es A ea ec wa wc vs ws):PaJ w s bg be br N u' es A ea ec wa wc vs ws:=
 ⟨J.rd.mv,J.g.mv,J.e.mv,J.es.up,J.wo.up,J.rows.up,⟨J.st.e.t (lE u u')⟩⟩
theorem PaJ.read{b:Nat}(J:PaJ w s bg be br N u es A ea ec wa wc vs ws)(f:Fr (λi=>i=br) u u')(R:Lw u' br s b)(c:¬bg=br)(d:¬be=br)(h:w.heap.size<=br):PaJ w s bg be br N u' es b ea ec wa wc vs ws:=
 ⟨R,J.g.fr f c,J.e.fr f d,J.es.frc f J.rd,J.wo.frc f J.rd,J.rows.frc f J.rd,⟨Fr.st J.st.e f λi hi=>hi ▸ h⟩⟩
end
theorem Gp(e:OA)(n m:Nat):∀u∈[Value.slice e n m],u.oneCell'=true:=by intro u b;simp at b;subst b;rfl
theorem RV{b:List ResultVar}{F:Nat->Value}{e:Value}{c:List PanicEntry}{R:KW}{f:PW}{d:Deferred}{ds:List Deferred}(h0:F 4294967296=e)(hd:FV e=d::ds)
  (h:CZ P b F (d::ds) (.panicking c) R f w):HM P b R f F c w:=by
 unfold HM;rw[h0,hd];exact h
theorem zPi{r:U8}(h:DQ r=none):GP r=none:=by unfold GP;rw[h]
theorem ZA{r t:U8}{l:List Nat}(h:DQ r=some (l,t))(b:EJ t=none):GP r=none:=by unfold GP;rw[h];dsimp only;rw[b]
theorem Za{r t u:U8}{l:List Nat}{b:List (U8)}(h:DQ r=some (l,t))(c:EJ t=some (b,u)):GP r=some ((l,b),u):=by unfold GP;rw[h];dsimp only;rw[c]
theorem uG{r:U8}(h:EF r=none):EJ r=none:=by unfold EJ;rw[h]
theorem Mw{r t:U8}(h:EF r=some (n,t)):EJ r=if n<=8 then Af GS n t else none:=by unfold EJ;rw[h]
theorem RJ{r:U8}(h:s=119::103::r):UQ s=match EF r with
  |some (n,t)=>if n<=200 then(match Af GP n t with|some (ps,u)=>some (n,ps,u)|none=>none) else none
  |none=>none:=by subst h;rfl
theorem LV(h:UQ s=none):Ef s=none:=by unfold Ef;rw[h]
theorem xD(h:¬[119,103] <+: s):UQ s=none:=by
 unfold UQ;split
 ·rename_i r;exact absurd ⟨r,rfl⟩ h
 ·rfl
theorem zIf{s0:U8}(d0:s0.length<=4611686018427387904):Sp PP 96 #[Ae s0] w (Mo s0 w):=by
 refine eN ?_;refine Ao λS w1 n1 z1=>Ao λbe w2 n2 z2=>?_;have e9:=n1.b;have f0:=n1.s;have f2:=n2.b;have f3:=n2.s;have X2:Bk w2 S (enc MM) 35:=z1.mv;have E2:Bk w2 be [.int .i64 0] 24:=z2;have f7:=lz w w2;have W:¬be=S:=by omega
 have a5:∀i,i=S->w.heap.size<=i:=by omega
 have pan:∀{G:Nat->Value} {u:World} {x:Fa},Bk u S (enc x) 35->Bk u be [.int .i64 0] 24->AC w u->Ef s0=none->ev G (.tmp 2)=.pointer (some ⟨S,0,none⟩)->ev G (.tmp 3)=.pointer (some ⟨be,0,none⟩) ->
   CZ PP Tryz.f96.results.toList G [{ target:=.fn (.func 147) #[.pointer (some ⟨S,0,none⟩),.pointer (some ⟨be,0,none⟩)],args:=#[] }] (.panicking He) (Mo s0 w) (λ_ _=>False) u:=by
  intro G u x X E' e I g4 g5;refine Tu (by simp) ⟨(rK X E' W).can,SW (rK X E' W).calls ?_⟩;intro en u' w' he
  cases en with
  |returned v =>
   obtain⟨h1,X',E',f'⟩:=he;show CZ PP _ _ [] (settle u') _ _ w';rw[h1];refine Cf ?_;show El PP [.cell 2 _,.cell 3 _] [] G _ w';simp only[El,g4,g5];refine AR (B:=X') rfl ?_;refine FX (B:=E') rfl ?_;exact⟨.inr ⟨I,rfl⟩,⟨Fr.st e.e f' λi hi=>by omega⟩⟩
  |panicked c=>exact he
  |outgrown=>exact he
 by_cases F:[119,103] <+: s0
 case neg =>
  refine AA (fX (s:=s0) (p:=[119,103])) ?_;rintro _ _ ⟨⟨d1,rfl⟩|⟨_,rfl⟩,rfl⟩
  ·exact absurd d1 F
  refine Hp (FA ?_);exact pan X2 E2 stp (LV (xD F)) rfl rfl
 obtain⟨s,rfl⟩:=F
 have c2:Sp PP 125 #[Ae ([119,103]++s),Ae [119,103]] w2 λv w'=>v=.tuple #[Ae s,.bool true]/\w'=w2:=(fX (s:=[119,103]++s) (p:=[119,103])).mono λv w' h=>by
  rcases h with⟨⟨_,h1⟩|⟨h1,_⟩,h2⟩
  ·exact⟨h1,h2⟩
  ·exact absurd ⟨s,rfl⟩ h1
 refine AA c2 ?_;rintro _ _ ⟨rfl,rfl⟩;have hs:s.length<=4611686018427387904:=by simp at d0;omega
 have hI:=RJ (s:=[119,103]++s) (r:=s) rfl;refine AJ (cs:=[Ae s,.int .i64 0]) rfl (BM λbr w3 n3 B3=>?_);have f8:=n3.b;have R3:Lw w3 br s 0:=B3;clear B3;have a3:∀i,i=br->w.heap.size<=i:=by omega
 have C:¬S=br:=by omega
 have K:¬be=br:=by omega
 have X3:=X2.mv (w:=w3);have E3:=E2.mv (w:=w3);refine AO (fM R3 hs) ?_ ?_
 case' refine_2 =>
  rintro _ w4 ⟨rfl,I,f4⟩;have s4:AC w w4:=⟨Fr.st Le.e f4 a3⟩;rw[Jf]at I;rw[I]at hI;exact pan (X3.fr f4 C) (E3.fr f4 K) s4 (LV hI) rfl rfl
 rintro _ w4 ⟨N,A1,hr,rfl,R4,f4⟩;have s4:AC w w4:=⟨Fr.st Le.e f4 a3⟩;have c3:=hr.2;rw[Jf]at c3;rw[c3]at hI;have X4:=X3.fr f4 C;have E4:=E3.fr f4 K;refine rS X4 [.int .i64 (N:Int)] (HN _) λw5 X5 f5 _=>?_;have X5:Bk w5 S [.int .i64 (N:Int),.slice none 0 0,.slice none 0 0] 35:=X5;have s5:AC w w5:=⟨Fr.st s4.e f5 a5⟩;have E5:=E4.fr f5 W;have R5:=R4.fr f5 (λh=>C h.symm);refine rX X5 rfl (ite (λc4=>?_) (λc4=>?_))
 ·refine Hp (FA ?_);exact pan (x:=⟨N,⟨none,0,0⟩,⟨none,0,0⟩⟩) X5 E5 s5 (LV (by rw[hI];exact if_neg (by omega))) rfl rfl
 have b3:UQ ([119,103]++s)=match Af GP N (s.drop A1) with|some (ps,u)=>some (N,ps,u)|none=>none:=hI.trans (if_pos (by omega))
 clear hI;refine rX X5 rfl ?_
 refine cN 31 [7,9] 31 N (λk u=>∃ps A ea ec wa wc vs,iI w s S be br N A1 k u (BF 0 (Ai ps)) ps A ea ec wa wc vs)
  ⟨([]:List (List Nat×List (U8))),A1,none,0,none,0,[],⟨R5,X5,E5,AD.nil _ _ _,AD.nil _ _ _,⟨rfl,λi h=>absurd h (by simp)⟩,s5⟩,rfl,hr.1,by rw[bH,JF],by simp⟩ ?_
 rintro k gf u hk ⟨ps,A,ea,ec,wa,wc,vs,J⟩;have d2:=J.rows.1;rw[Qr,J.len]at d2;refine ite (λBS=>?_) (λf9=>?_)
 case' refine_2 =>
  have q_:k=N:=by omega
  obtain rfl:=q_;have hd:Af GP k (s.drop A1)=some (ps,s.drop A):=by rw[<-J.pre,JN];simp[Af,Gl]
  rw[hd]at b3;have c5:=nE (Ai ps) 0 (by intro l hl;obtain⟨p,F,rfl⟩:=Qq.1 hl;exact(J.sm p F).1);rw[Qr,J.len]at c5
  have V:Kt u ⟨k,⟨ea,(BF 0 (Ai ps)).length,ec⟩,⟨wa,vs.length,wc⟩⟩ (Lu k ps) vs:=⟨rfl,J.es.sl,J.wo.sl,J.rows.v,⟨by show(BF 0 (Ai ps)).length<=1000000;omega,by omega,λl hl=>by obtain⟨p,F,rfl⟩:=Qq.1 hl;have:=(J.sm p F).2.1;simp;omega⟩,λl hl x hx=>by
   have q_:=Qq.1 hl;obtain⟨p,F,rfl⟩:=q_;have q_:=Qq.1 hx;obtain⟨y,hy,rfl⟩:=q_;have:=(J.sm p F).2.2 y hy;have h2:=AM y;show(⟨y.toArray⟩:ByteArray).size<=_;omega⟩
  have hz:=AM s;have JR:=J.rd;have JG:=J.g;have JE:=J.e;have Js:=J.st;refine rX JR rfl (ite (λh1=>?_) (λh1=>?_))
  ·refine Hp (FA ?_);refine pan (x:=⟨k,⟨ea,(BF 0 (Ai ps)).length,ec⟩,⟨wa,vs.length,wc⟩⟩) JG JE Js ?_ rfl rfl;unfold Ef;rw[b3];dsimp only;rw[if_neg];rintro⟨h2,_⟩;have:=congrArg List.length h2;rw[QR]at this;simp at this;have:=J.at';omega
  have hA:s.drop A=[]:=by rw[List.drop_eq_nil_iff];omega
  refine rG JG (⟨k,⟨ea,(BF 0 (Ai ps)).length,ec⟩,⟨wa,vs.length,wc⟩⟩:Fa) (AA (dM V) ?_);rintro _ u2 ⟨⟨rfl,hg⟩|⟨rfl,hg⟩,e2⟩
  ·have G2:=JG.mv (w:=u2);have d3:=JE.mv (w:=u2);refine rG G2 (⟨k,⟨ea,(BF 0 (Ai ps)).length,ec⟩,⟨wa,vs.length,wc⟩⟩:Fa) (rE G2 (⟨k,⟨ea,(BF 0 (Ai ps)).length,ec⟩,⟨wa,vs.length,wc⟩⟩:Fa) λu3 X6 f6 _=>?_);have X6:Bk u3 S (enc (⟨k,⟨ea,(BF 0 (Ai ps)).length,ec⟩,⟨wa,vs.length,wc⟩⟩:Fa)) 35:=X6;have E6:=d3.fr f6 W;refine rS E6 [.int .i64 0] (HN _) λu4 E7 z _=>?_;have X7:=X6.fr z (λh=>W h.symm);have s7:AC w u4:=⟨Fr.st (Fr.st (Js.e.t e2.e) f6 a5) z λi hi=>by omega⟩;have O7:=((J.es.up (w':=u2)).frc f6 G2).frc z E6;have W7:=((J.wo.up (w':=u2)).frc f6 G2).frc z E6;have Q7:=((J.rows.up (w':=u2)).frc f6 G2).frc z E6;refine Tu (by simp) ⟨(qP (bx:=S) (be:=be) (w:=u4)).can,SW (qP (bx:=S) (be:=be) (w:=u4)).calls ?_⟩;intro en u' w' hh
   cases en with
   |returned v =>
    obtain⟨rfl,rfl⟩:=hh;refine Cf ?_;refine AR (B:=X7) rfl ?_;refine FX (B:=E7) rfl ?_;refine⟨.inl ⟨Lu k ps,_,vs,?_,rfl,⟨rfl,O7.sl,W7.sl,Q7.v,V.small,V.words⟩⟩,s7⟩;unfold Ef;rw[b3];dsimp only;rw[if_pos ⟨hA,hg⟩]
   |panicked c=>exact hh
   |outgrown=>exact hh
  ·refine Hp (FA ?_);refine pan (x:=⟨k,⟨ea,(BF 0 (Ai ps)).length,ec⟩,⟨wa,vs.length,wc⟩⟩) (JG.mv (w:=u2)) (JE.mv (w:=u2)) ⟨Js.e.t e2.e⟩ ?_ rfl rfl;unfold Ef;rw[b3];dsimp only;rw[if_neg];exact λh=>hg h.2
 have b7:N - k=(N - (k+1))+1:=by omega
 have a0:GP (s.drop A)=none->Ef ([119,103]++s)=none:=λh=>LV (b3.trans (by rw[<-J.pre,b7,aE h];rfl));have J0:=J.toPaJ;have a9:=J.pre;have c0:=J.sm;have b0:=J.len;refine AO (zFk J.rd hs) ?_ ?_
 case' refine_2 =>
  rintro _ u1 ⟨rfl,I,f1⟩;have d4:=J.g.fr f1 C;have d5:=J.e.fr f1 K;exact pan (x:=⟨N,⟨ea,(BF 0 (Ai ps)).length,ec⟩,⟨wa,vs.length,wc⟩⟩) d4 d5 ⟨Fr.st J.st.e f1 a3⟩ (a0 (zPi I)) rfl rfl
 rintro v1 u1 ⟨l,A2,Y,O1,B1,f1⟩;have J1:=J0.read f1 B1 C K (by omega);have g0:=rZ Y.2;have d6:=nE (Ai ps) 0 (by intro l hl;obtain⟨p,F,rfl⟩:=Qq.1 hl;exact(J.sm p F).1);rw[Qr,J.len]at d6;have d7:=Qw J.st.e.size (Qe _);have O1:=O1.mono d7;have q_:=O1.shape;obtain⟨ra,rc,rfl⟩:=q_;have d8:(AH l).length=l.length:=by simp[AH]
 refine cN 37 [9] 37 (AH l).length (λj u'=>∃ea ec,PaJ w s S be br N u' (BF 0 (Ai ps)++(l.take j).map λt=>⟨k,t⟩) A2 ea ec wa wc vs (Dj ps)/\AD w.heap.size 3 u' (.slice ra (AH l).length rc) (AH l))
  ⟨ea,ec,by simpa using J1,O1⟩ ?_
 rintro j g1 u2 hj ⟨L,M,J2,O2⟩;refine ite (λe7=>?_) (λe8=>?_)
 case' refine_1 =>
  have c8:j<l.length:=by omega
  have d9:=J2.g;have c9:(BF 0 (Ai ps)++(l.take j).map λt=>(⟨k,t⟩:BO)).length<=1000000:=by rw[Qb,Qr,Qm];omega
  refine Bp O2.sl (x:=(l[j]:Int)) (by simp[AH,c8]) λb4 o4 A4=>AF (A4.cell0 rfl) (rX d9 rfl (AJ (cs:=enc (⟨k,l[j]⟩:BO)) rfl (HS (α:=BO) ⟨k,l[j]⟩ rfl rfl (by decide) λb5 u5 e5 _ S5=>?_)));have s2:=J2.st;have J5:=J2.up (u':=u5);have a1:=J5.g;refine Aw (u:=w) ⟨rfl,rfl⟩ J5.es S5 (by omega) λv6 u6 O6 f6 s6=>?_;have G6:=a1.fro J5.es f6;have e0:BF 0 (Ai ps)++(l.take (j+1)).map (λt=>(⟨k,t⟩:BO))=(BF 0 (Ai ps)++(l.take j).map λt=>(⟨k,t⟩:BO))++[⟨k,l[j]⟩]:=by rw[Ci c8,QB,Qp];rfl
  rw[<-e0]at O6;have q_:=O6.shape;obtain⟨a6,c6,rfl⟩:=q_;refine rS G6 [.slice a6 (BF 0 (Ai ps)++(l.take (j+1)).map λt=>(⟨k,t⟩:BO)).length c6] (Gp _ _ _) λu7 Q z _=>?_
  have J7:PaJ w s S be br N u7 (BF 0 (Ai ps)++(l.take (j+1)).map λt=>(⟨k,t⟩:BO)) A2 a6 c6 wa wc vs (Dj ps):=
   ⟨(J5.rd.fro J5.es f6).fr z (λh=>C h.symm),Q,(J5.e.fro J5.es f6).fr z W,O6.frc z G6,(J5.wo.fro J5.es f6).frc z G6,(J5.rows.fro J5.es f6).frc z G6,⟨Fr.st (lE w u6) z a5⟩⟩
  have O7:=((O2.up (w':=u5)).fro J5.es f6).frc z G6;exact rA ⟨rfl,by omega,a6,c6,J7,O7⟩
 have q_:j=(AH l).length:=by omega
 obtain rfl:=q_;rw[d8,Qg]at J2;have c9:(BF 0 (Ai ps)++l.map λt=>(⟨k,t⟩:BO))=BF 0 (Ai ps++[l]):=by rw[zM5,JO,Qr,J.len]
 rw[c9]at J2;clear J0 J1;refine dT (λ_=>True) (oL [0,2,3] (.duo 1 (oL [4,5,6,7,8,9] .nil) 4 (.duo 1 (oL [5,6,7,8,9] .nil) 5 (.duo 1 (oL [6,7,8,9] .nil) 6 (.lone 1 (oL [7,8,9] .nil)))))) λu3 e3=>?_;have J3:=J2.up (u':=u3);have a4:w.heap.size<=br:=by omega
 have g2:vs.length<=200:=by omega
 clear J2 J R5 X5 E5 E4 X4 R4 E3 X3 R3 X2 E2;refine⟨?_,?_⟩
 ·have e4:=J3.g;refine rX e4 rfl ⟨Fr.refl _ _,?_⟩;have NS:=fM J3.rd hs;refine AO NS ?_ ?_
  case' refine_2 =>
   rintro _ u4 ⟨rfl,I,O⟩;have b8:=J3.g.fr O C;have c1:=J3.e.fr O K;intro F' ag;show HM PP Tryz.f96.results.toList (Mo ([119,103]++s) w) (λ_ _=>False) F' He _;refine RV (ag 4294967296 rfl) (d:={ target:=.fn (.func 147) #[.pointer (some ⟨S,0,none⟩),.pointer (some ⟨be,0,none⟩)],args:=#[] }) (ds:=[]) rfl ?_;exact pan (x:=⟨N,⟨L,(BF 0 (Ai ps++[l])).length,M⟩,⟨wa,vs.length,wc⟩⟩) b8 c1 ⟨Fr.st J3.st.e O a3⟩ (a0 (ZA Y.2 (uG I))) (ag 2 rfl) (ag 3 rfl)
  rintro _ u4 ⟨n1,A3,b1,rfl,R4,O⟩;refine⟨Fr.mono O λ_ _ _=>trivial,?_⟩;have J4:=J3.read O R4 C K a4;have hW:=Mw b1.2;have SS:=gK (n:=n1) J4.rd b1.1 hs;refine AO SS ?_ ?_
  case' refine_2 =>
   rintro _ u5 ⟨rfl,I,E⟩;have a1:=J4.g.fr E C;have b9:=J4.e.fr E K;intro F' ag;show HM PP Tryz.f96.results.toList (Mo ([119,103]++s) w) (λ_ _=>False) F' He _;refine RV (ag 4294967296 rfl) (d:={ target:=.fn (.func 147) #[.pointer (some ⟨S,0,none⟩),.pointer (some ⟨be,0,none⟩)],args:=#[] }) (ds:=[]) rfl ?_;exact pan (x:=⟨N,⟨L,(BF 0 (Ai ps++[l])).length,M⟩,⟨wa,vs.length,wc⟩⟩) a1 b9 ⟨Fr.st J4.st.e E a3⟩ (a0 (ZA Y.2 (by rw[hW];split;exact I (by assumption);rfl))) (ag 2 rfl) (ag 3 rfl)
  rintro _ u5 ⟨o,A4,b2,Z,O5,R5,E⟩;refine⟨Fr.mono E λ_ _ _=>trivial,?_⟩;have J5:=J4.read E R5 C K a4;have O5:=O5.mono J4.st.e.size;have q5:=O5.shape;obtain⟨sa,sc,rfl⟩:=q5;refine bS (⟨sa,(o.map AS).length,sc⟩:SV) λb6 u6 e6 _ S6=>⟨Fr.mono e6.e λ_ _ _=>trivial,?_⟩;have f:=J5.up (u':=u6);have s6:=f.st;have a2:=f.g;refine Aw (u:=w) ⟨rfl,rfl⟩ f.wo S6 (by omega) λv7 u7 O7 z s7=>⟨Fr.mono z λ_ _ _=>trivial,?_⟩;have Q:=a2.fro f.wo z;have q7:=O7.shape;obtain⟨a7,c7,rfl⟩:=q7;refine rS Q [.slice a7 (vs++[(⟨sa,(o.map AS).length,sc⟩:SV)]).length c7] (Gp _ _ _) λu8 G8 H _=>⟨Fr.mono H λ_ _ _=>trivial,?_⟩;have a8:=(((O5.up (w':=u6)).fro f.wo z).frc H Q);have U:=Za Y.2 (show EJ (s.drop A2)=some (o,s.drop A4) by rw[hW,if_pos b2];exact Z.2);have e1:Ai (ps++[(l,o)])=Ai ps++[l]:=by simp[Ai]
  have e2:Dj (ps++[(l,o)])=Dj ps++[o.map AS]:=by simp[Dj]
  have J8:PaJ w s S be br N u8 (BF 0 (Ai (ps++[(l,o)]))) A4 L M a7 c7 (vs++[(⟨sa,(o.map AS).length,sc⟩:SV)]) (Dj (ps++[(l,o)])):=by
   rw[e1,e2];exact⟨(f.rd.fro f.wo z).fr H (λh=>C h.symm),G8,(f.e.fro f.wo z).fr H W,(f.es.fro f.wo z).frc H Q,O7.frc H Q,Bl.add ((f.rows.fro f.wo z).frc H Q) a8,⟨Fr.st (lE w u7) H a5⟩⟩
  refine rA ⟨rfl,by omega,ps++[(l,o)],A4,L,M,a7,c7,vs++[(⟨sa,(o.map AS).length,sc⟩:SV)],J8,?_,Z.1,?_,?_⟩
  ·rw[Qb,b0];rfl
  ·rw[<-a9,b7,Sy U]
  ·intro p F;have q_:=Qf.1 F;rcases q_ with F|F
   ·exact c0 p F
   ·rw[Qc.1 F];exact eC U
 have NS:=fM J3.rd hs;refine AO NS ?_ ?_
 case' refine_2 =>
  rintro _ u4 ⟨rfl,I,O⟩;have b8:=J3.g.fr O C;have c1:=J3.e.fr O K;intro F' ag;show HM PP Tryz.f96.results.toList (Mo ([119,103]++s) w) (λ_ _=>False) F' He _;refine RV (ag 4294967296 rfl) (d:={ target:=.fn (.func 147) #[.pointer (some ⟨S,0,none⟩),.pointer (some ⟨be,0,none⟩)],args:=#[] }) (ds:=[]) rfl ?_;exact pan (x:=⟨N,⟨L,(BF 0 (Ai ps++[l])).length,M⟩,⟨wa,vs.length,wc⟩⟩) b8 c1 ⟨Fr.st J3.st.e O a3⟩ (a0 (ZA Y.2 (uG I))) (ag 2 rfl) (ag 3 rfl)
 rintro _ u4 ⟨n1,A3,b1,rfl,R4,O⟩;refine⟨Fr.mono O λ_ _ _=>trivial,?_⟩;have J4:=J3.read O R4 C K a4;have hW:=Mw b1.2;refine⟨?_,?_⟩
 ·have b8:=J4.g;refine rX b8 rfl ⟨Fr.refl _ _,?_⟩;have SS:=gK (n:=n1) J4.rd b1.1 hs;refine AO SS ?_ ?_
  case' refine_2 =>
   rintro _ u5 ⟨rfl,I,E⟩;have a1:=J4.g.fr E C;have b9:=J4.e.fr E K;intro F' ag;show HM PP Tryz.f96.results.toList (Mo ([119,103]++s) w) (λ_ _=>False) F' He _;refine RV (ag 4294967296 rfl) (d:={ target:=.fn (.func 147) #[.pointer (some ⟨S,0,none⟩),.pointer (some ⟨be,0,none⟩)],args:=#[] }) (ds:=[]) rfl ?_;exact pan (x:=⟨N,⟨L,(BF 0 (Ai ps++[l])).length,M⟩,⟨wa,vs.length,wc⟩⟩) a1 b9 ⟨Fr.st J4.st.e E a3⟩ (a0 (ZA Y.2 (by rw[hW];split;exact I (by assumption);rfl))) (ag 2 rfl) (ag 3 rfl)
  rintro _ u5 ⟨o,A4,b2,Z,O5,R5,E⟩;refine⟨Fr.mono E λ_ _ _=>trivial,?_⟩;have J5:=J4.read E R5 C K a4;have O5:=O5.mono J4.st.e.size;have q5:=O5.shape;obtain⟨sa,sc,rfl⟩:=q5;refine bS (⟨sa,(o.map AS).length,sc⟩:SV) λb6 u6 e6 _ S6=>⟨Fr.mono e6.e λ_ _ _=>trivial,?_⟩;have f:=J5.up (u':=u6);have s6:=f.st;have a2:=f.g;refine Aw (u:=w) ⟨rfl,rfl⟩ f.wo S6 (by omega) λv7 u7 O7 z s7=>⟨Fr.mono z λ_ _ _=>trivial,?_⟩;have Q:=a2.fro f.wo z;have q7:=O7.shape;obtain⟨a7,c7,rfl⟩:=q7;refine rS Q [.slice a7 (vs++[(⟨sa,(o.map AS).length,sc⟩:SV)]).length c7] (Gp _ _ _) λu8 G8 H _=>⟨Fr.mono H λ_ _ _=>trivial,?_⟩;have a8:=(((O5.up (w':=u6)).fro f.wo z).frc H Q);have U:=Za Y.2 (show EJ (s.drop A2)=some (o,s.drop A4) by rw[hW,if_pos b2];exact Z.2);have e1:Ai (ps++[(l,o)])=Ai ps++[l]:=by simp[Ai]
  have e2:Dj (ps++[(l,o)])=Dj ps++[o.map AS]:=by simp[Dj]
  have J8:PaJ w s S be br N u8 (BF 0 (Ai (ps++[(l,o)]))) A4 L M a7 c7 (vs++[(⟨sa,(o.map AS).length,sc⟩:SV)]) (Dj (ps++[(l,o)])):=by
   rw[e1,e2];exact⟨(f.rd.fro f.wo z).fr H (λh=>C h.symm),G8,(f.e.fro f.wo z).fr H W,(f.es.fro f.wo z).frc H Q,O7.frc H Q,Bl.add ((f.rows.fro f.wo z).frc H Q) a8,⟨Fr.st (lE w u7) H a5⟩⟩
  refine rA ⟨rfl,by omega,ps++[(l,o)],A4,L,M,a7,c7,vs++[(⟨sa,(o.map AS).length,sc⟩:SV)],J8,?_,Z.1,?_,?_⟩
  ·rw[Qb,b0];rfl
  ·rw[<-a9,b7,Sy U]
  ·intro p F;have q_:=Qf.1 F;rcases q_ with F|F
   ·exact c0 p F
   ·rw[Qc.1 F];exact eC U
 have SS:=gK (n:=n1) J4.rd b1.1 hs;refine AO SS ?_ ?_
 case' refine_2 =>
  rintro _ u5 ⟨rfl,I,E⟩;have a1:=J4.g.fr E C;have b9:=J4.e.fr E K;intro F' ag;show HM PP Tryz.f96.results.toList (Mo ([119,103]++s) w) (λ_ _=>False) F' He _;refine RV (ag 4294967296 rfl) (d:={ target:=.fn (.func 147) #[.pointer (some ⟨S,0,none⟩),.pointer (some ⟨be,0,none⟩)],args:=#[] }) (ds:=[]) rfl ?_;exact pan (x:=⟨N,⟨L,(BF 0 (Ai ps++[l])).length,M⟩,⟨wa,vs.length,wc⟩⟩) a1 b9 ⟨Fr.st J4.st.e E a3⟩ (a0 (ZA Y.2 (by rw[hW];split;exact I (by assumption);rfl))) (ag 2 rfl) (ag 3 rfl)
 rintro _ u5 ⟨o,A4,b2,Z,O5,R5,E⟩;refine⟨Fr.mono E λ_ _ _=>trivial,?_⟩;have J5:=J4.read E R5 C K a4;have O5:=O5.mono J4.st.e.size;have q5:=O5.shape;obtain⟨sa,sc,rfl⟩:=q5;refine⟨?_,?_⟩
 ·have a1:=J5.g;refine rX a1 rfl ⟨Fr.refl _ _,?_⟩;refine bS (⟨sa,(o.map AS).length,sc⟩:SV) λb6 u6 e6 _ S6=>⟨Fr.mono e6.e λ_ _ _=>trivial,?_⟩;have f:=J5.up (u':=u6);have s6:=f.st;have a2:=f.g;refine Aw (u:=w) ⟨rfl,rfl⟩ f.wo S6 (by omega) λv7 u7 O7 z s7=>⟨Fr.mono z λ_ _ _=>trivial,?_⟩;have Q:=a2.fro f.wo z;have q7:=O7.shape;obtain⟨a7,c7,rfl⟩:=q7;refine rS Q [.slice a7 (vs++[(⟨sa,(o.map AS).length,sc⟩:SV)]).length c7] (Gp _ _ _) λu8 G8 H _=>⟨Fr.mono H λ_ _ _=>trivial,?_⟩;have a8:=(((O5.up (w':=u6)).fro f.wo z).frc H Q);have U:=Za Y.2 (show EJ (s.drop A2)=some (o,s.drop A4) by rw[hW,if_pos b2];exact Z.2);have e1:Ai (ps++[(l,o)])=Ai ps++[l]:=by simp[Ai]
  have e2:Dj (ps++[(l,o)])=Dj ps++[o.map AS]:=by simp[Dj]
  have J8:PaJ w s S be br N u8 (BF 0 (Ai (ps++[(l,o)]))) A4 L M a7 c7 (vs++[(⟨sa,(o.map AS).length,sc⟩:SV)]) (Dj (ps++[(l,o)])):=by
   rw[e1,e2];exact⟨(f.rd.fro f.wo z).fr H (λh=>C h.symm),G8,(f.e.fro f.wo z).fr H W,(f.es.fro f.wo z).frc H Q,O7.frc H Q,Bl.add ((f.rows.fro f.wo z).frc H Q) a8,⟨Fr.st (lE w u7) H a5⟩⟩
  refine rA ⟨rfl,by omega,ps++[(l,o)],A4,L,M,a7,c7,vs++[(⟨sa,(o.map AS).length,sc⟩:SV)],J8,?_,Z.1,?_,?_⟩
  ·rw[Qb,b0];rfl
  ·rw[<-a9,b7,Sy U]
  ·intro p F;have q_:=Qf.1 F;rcases q_ with F|F
   ·exact c0 p F
   ·rw[Qc.1 F];exact eC U
 refine bS (⟨sa,(o.map AS).length,sc⟩:SV) λb6 u6 e6 _ S6=>⟨Fr.mono e6.e λ_ _ _=>trivial,?_⟩;have f:=J5.up (u':=u6);have a2:=f.g;refine rX a2 rfl ⟨Fr.refl _ _,?_⟩;have s6:=f.st;have a2:=f.g;refine Aw (u:=w) ⟨rfl,rfl⟩ f.wo S6 (by omega) λv7 u7 O7 z s7=>⟨Fr.mono z λ_ _ _=>trivial,?_⟩;have Q:=a2.fro f.wo z;have q7:=O7.shape;obtain⟨a7,c7,rfl⟩:=q7;refine rS Q [.slice a7 (vs++[(⟨sa,(o.map AS).length,sc⟩:SV)]).length c7] (Gp _ _ _) λu8 G8 H _=>⟨Fr.mono H λ_ _ _=>trivial,?_⟩;have a8:=(((O5.up (w':=u6)).fro f.wo z).frc H Q);have U:=Za Y.2 (show EJ (s.drop A2)=some (o,s.drop A4) by rw[hW,if_pos b2];exact Z.2);have e1:Ai (ps++[(l,o)])=Ai ps++[l]:=by simp[Ai]
 have e2:Dj (ps++[(l,o)])=Dj ps++[o.map AS]:=by simp[Dj]
 have J8:PaJ w s S be br N u8 (BF 0 (Ai (ps++[(l,o)]))) A4 L M a7 c7 (vs++[(⟨sa,(o.map AS).length,sc⟩:SV)]) (Dj (ps++[(l,o)])):=by
  rw[e1,e2];exact⟨(f.rd.fro f.wo z).fr H (λh=>C h.symm),G8,(f.e.fro f.wo z).fr H W,(f.es.fro f.wo z).frc H Q,O7.frc H Q,Bl.add ((f.rows.fro f.wo z).frc H Q) a8,⟨Fr.st (lE w u7) H a5⟩⟩
 refine rA ⟨rfl,by omega,ps++[(l,o)],A4,L,M,a7,c7,vs++[(⟨sa,(o.map AS).length,sc⟩:SV)],J8,?_,Z.1,?_,?_⟩
 ·rw[Qb,b0];rfl
 ·rw[<-a9,b7,Sy U]
 ·intro p F;have q_:=Qf.1 F;rcases q_ with F|F
  ·exact c0 p F
  ·rw[Qc.1 F];exact eC U
section
variable {P:Program} {α:Type} [AL α] [DecidableEq α] {t:TypeId}
theorem Nw(Q:Ti P t α)(k:α)(w:World):∀(es:List MapEntry) (m:List (α×Value)) (i:Nat),Fe agg es m->(Instr.findAsking t (agg k) es i).run P w=.ok (DM k m i) w
 |[],m,i,h=>by rw[aQ h];rfl
 |e::es,m,i,h=>by
  have c:=bG h;obtain⟨f,r,rfl,o,p⟩:=c;have v:=Nw Q k w es r (i+1) p;unfold Instr.findAsking DM;rw[o];have c:=Q.eq 9992 k f w;obtain⟨b,x,l⟩:=c;have d:(Op.equal t (agg k) (agg f)).run P w=.ok b w:=x;simp only[Qo,d,Qh]
  cases b with
  |true=>rw[if_pos rfl,if_pos (l.1 rfl)];rfl
  |false=>rw[if_neg (by simp),if_neg (λe=>by have:=l.2 e;cases this)];exact v
@[reducible] def Ze {fs:Array Field} (Q:Ti P t α) (hu:P.underlying t=some (.struct fs)) (hc:∀(e:Bool) (k:α) (w:World),(Instr.checkKey e 10000 t (agg k)).run P w=.ok () w) (hs:∀k:α,Instr.sameBits 10000 (agg k) (agg k)=true):Eo P t α where
 val:=agg
 check:=hc
 find k es m w h:=by
  unfold Instr.findKey
  simp only[underlying,Sem.run_bind,run_program,Result.andThen_ok,hu,Sem.run_pure]
  cases es with
  |nil=>rw[aQ h];rfl
  |cons e r =>
   have:Instr.findNow (.struct fs) (agg k) (e::r) 0=none:=by
    unfold Instr.findNow
    rfl
   rw[this]
   exact Nw Q k w _ _ _ h
 same:=hs
end
theorem LI{kt:TypeId}{κ:Type}[DecidableEq κ][M:Eo P kt κ]{k:KW}{f:PW}{t e:TypeId}{z:Value}{sz c:Nat}[r:EK P t kt e][y:AX P e z sz c]{b:Nat}{m:List (κ×Value)}{d:Value}(h:BN P kt w b m)(x:κ)(l:d=M.val x){v:Value}(o:(An m x).getD z=v)(p:k v w):AI P (Instr.lookup t (.map (some b)) d false) k f w:=by
 subst o;exact Hn h x l p
theorem zOZ(k:Aj):Instr.sameBits 10000 (agg k) (agg k)=true:=by
 show Instr.sameBits 10000 (.agg #[.int .i64 k.slot,.int .i64 k.dir,.int .i64 k.v]) (.agg #[.int .i64 k.slot,.int .i64 k.dir,.int .i64 k.v])=true;simp[Instr.sameBits]
theorem zMY{t ti:TypeId}{fs:Array Field}{q:IntKind}(d:P.underlying t=some (.struct fs))(h:One P ti)(hi:P.underlying ti=some (.int q))(xs:Array Value)
  (hb : fs.toList.all (λf => f.name != "_" && f.type == ti && decide (f.offset < xs.size)) = true)(e : Bool)(w : World) : (Instr.checkKey e 10000 t (.agg xs)).run P w = .ok () w := by
 rw[show(10000:Nat)=9999+1 from rfl,Instr.checkKey];simp only[Qo,run_underlying d,Qh];rw[<-Array.forIn_toList];generalize fs.toList=L at hb
 induction L with
 |nil=>simp
 |cons f L l =>
  rw[Ye,Qz]at hb;obtain⟨b,p⟩:=hb;simp only[Qz,bne_iff_ne,ne_eq,beq_iff_eq,decide_eq_true_eq]at b;obtain⟨⟨r,c⟩,z⟩:=b;have x:=iD (P:=P) (c ▸ h) (cs:=xs) (o:=f.offset) (v:=xs[f.offset]) (by simp) w
  have y:(Instr.checkKey e 9999 f.type xs[f.offset]).run P w=.ok () w:=by
   rw[c,show(9999:Nat)=9998+1 from rfl,Instr.checkKey];simp only[Qo,run_underlying hi,Qh];rfl
  simp only[List.forIn_cons,Qo,r,ne_eq,not_false_eq_true,if_true,Qh,x,y,Jd];exact l p
theorem zNU(e:Bool)(k:Aj)(w:World):(Instr.checkKey e 10000 327 (agg k)).run PP w=.ok () w:=
 zMY (ti:=3) (q:=.i64) (fs:=Program.fieldsOf PP 327) (by kernel_rfl) inferInstance (by kernel_rfl) _ (by kernel_rfl) e w
noncomputable instance:Eo PP 327 Aj:=Ze (fs:=Program.fieldsOf PP 327) inferInstance (by kernel_rfl) zNU zOZ
theorem zPp{l:List Int}(b:k<l.length):(l.drop (l.length - (k+1))).reverse=(l.drop (l.length - k)).reverse++[l[l.length - 1 - k]]:=by grind[List.drop_eq_getElem_cons,List.reverse_cons]
section
variable {P:Program} {k:KW} {pn:PW} {w:World}
theorem eH{x:Int}(b:∀y,((-9223372036854775808<=x/\x<=9223372036854775807)->y=x)->k (.int .i64 y) w):Ow .i64 x k w:=by
 rw[Yq];exact b _ λh=>Se h.1 h.2
theorem Tf{t e:TypeId}{z:Value}{sz c:Nat}[d:MK P t N e][f:AX P e z sz c]{b o:Nat}{i:Int}(h0:0<=i)(h:i<N)(l:k (.pointer (some ⟨b,o+i.toNat*sz,none⟩)) w):
  AI P (Instr.indexAt t (.pointer (some ⟨b,o,none⟩)) (.int .i64 i)) k pn w:=AI.of (zPr d f h0 h w) l
end
theorem ZZ{c:Nat}{l:List Int}(h:AQ w (.slice a n c) l)(r:l.length<=1000000):
  Sp PP 343 #[.slice a n c] w λv w'=>AD w.heap.size 3 w' v l/\AC w w':=by
 have e:=h.len;obtain rfl:=e;refine eN ?_;refine Kv (λh0=>?_) (λh0=>?_)
 ·obtain⟨t,x,f,y,p⟩:=h;cases f;have:l=[]:=by rcases p with h|⟨b,o,h,_⟩;exact h;rw[h0]at h;cases h
  subst this;exact⟨AD.nil _ _ _,stp⟩
 ·refine Ky (n:=0) (vs:=[]) ([]:List Int) rfl rfl rfl (by omega) λb w1 n1 z=>Mz (u:=w) ⟨rfl,rfl⟩ (AD.nil' w.heap.size 3 w1 _) h.up (by simp;omega) λA C d E F=>?_;rw[Je]at d;exact⟨d,stp⟩
theorem zJO{c:Nat}{l:List Int}{x:Int}(h:AQ w (.slice a n c) l)(z:l.length<=1000000):
  Sp PP 384 #[.slice a n c,.int .i64 x] w λv w'=>(∃i:Int,v=.int .i64 i/\(0<=i↔x∈l))/\AC w w':=by
 have d:=h.len;obtain rfl:=d;refine eN ?_;refine cN 8 [4,5] 8 l.length (λk w'=>(∀j,j<k->¬l[j]? = some x)/\AC w w') ⟨by omega,stp⟩ ?_;rintro k g w' A ⟨hb,e⟩;refine ite (λBS=>?_) (λo=>?_)
 ·have b:k<l.length:=by omega
  refine Bp h.up (x:=l[k]) (by simp) λC E p=>AF (p.cell0 rfl) (ite (λr=>?_) (λf=>?_))
  ·exact⟨⟨_,rfl,⟨λ_=>by rw[r];exact Qa b,λ_=>by omega⟩⟩,stp⟩
  ·exact rA ⟨rfl,b,below hb (by simpa[b]using Jq f),stp⟩
 ·have d:k=l.length:=by omega
  obtain rfl:=d;refine⟨⟨_,rfl,⟨λh=>absurd h (by decide),λt=>?_⟩⟩,stp⟩;have d:=QI.1 t;obtain⟨j,y,rfl⟩:=d;exact absurd (by simp) (hb j y)
theorem lS{c:Nat}{l:List Int}{x:Int}(h:AQ w (.slice a n c) l)(b:l.length<=1000000):
  Sp PP 336 #[.slice a n c,.int .i64 x] w λv w'=>Am (x∈l) v/\AC w w':=by
 refine eN ?_;refine AA (zJO h b) ?_;rintro v w1 ⟨⟨i,rfl,hi⟩,e⟩;exact ite (λh=>⟨.t (hi.1 h),stp⟩) (λh=>⟨.f λd=>h (hi.2 d),stp⟩)
def Hb (s:List Int):List Value:=(List.range 400).map λi:Nat=>Value.bool (decide ((i:Int)∈s))
theorem rD(s:List Int):(Hb s).length=400:=by simp[Hb]
theorem zX(s:List Int){i:Int}(h0:0<=i)(b:i<400):(Hb s)[i.toNat]? = some (.bool (decide (i∈s))):=by
 unfold Hb;rw[QK,VS (by omega)];simp[Jh h0]
theorem zN3(s:List Int){i:Int}(h0:0<=i)(c:i<400):splice (Hb s) i.toNat [.bool true]=Hb (s++[i]):=by
 rw[Sg _ _ _ (by rw[rD];omega)];refine Vl λj=>?_;rw[Vw];unfold Hb;simp only[QK,Qr,Vm];by_cases b:j<400
 ·rw[VS b];by_cases e:i.toNat=j
  ·have:(j:Int)=i:=by omega
   simp[e,b,this]
  ·have:(j:Int)≠i:=by omega
   simp[e,this]
 ·have:¬i.toNat=j:=by omega
  rw[if_neg this,Jg (by simpa using b)];rfl
theorem zN2:(Value.agg (Array.replicate 400 (Value.bool false))).cells.toList=Hb []:=by kernel_rfl
theorem vO{sz:Int}{c:Nat}{l:List Int}(h:AQ w (.slice a n c) l)(Y:l.length<=1000000):
  Sp PP 342 #[Ss sz a n c] w λv w'=>Am (PS sz l) v/\AC w w':=by
 have y:=h.len;obtain rfl:=y;refine eN ?_;refine BM λZ w1 n1 G=>Ao λK w2 n2 C=>?_;rw[zN2]at C;refine Cx rfl ?_;refine cN 9 [2,5] 9 l.length (λk u=>(∀j,j<k->(hl:j<l.length)->0<=l[j]/\l[j]<sz)/\(l.take k).Nodup/\Bk u K (Hb (l.take k)) 477/\AC w1 u) ⟨by omega,by simp,by rw[Xa];exact C,stp⟩ ?_;rintro k g u hk ⟨hb,r,H,e⟩;clear C;refine ite (λBS=>?_) (λL=>?_)
 ·have d:k<l.length:=by omega
  refine Bp (h.up (w':=u)) (x:=l[k]) (by simp) λb4 o4 M=>AF (M.cell0 rfl) (ite (λO=>⟨.f λo=>by have:=o.2.2.1 _ (Qa d);omega,stp⟩) (λO=>?_));refine Cx rfl ?_;refine ite (λQ=>⟨.f λo=>by have:=o.2.2.1 _ (Qa d);omega,stp⟩) (λQ=>?_);refine ite (λh5=>⟨.f λo=>by have:=o.2.2.1 _ (Qa d);have:=o.2.1;omega,stp⟩) (λh5=>?_);refine Tf (by omega) (by omega) ?_;refine gL (B:=H) (v:=.bool (decide (l[k]∈l.take k))) (by rw[JO,Xq];exact zX _ (by omega) (by omega)) ?_;by_cases A:l[k]∈l.take k
  ·rw[decide_eq_true A];refine⟨.f λo=>?_,stp⟩;have p:(l.take (k+1)).Nodup:=o.2.2.2.sublist (List.take_sublist _ _);rw[Ci d,JU]at p;exact p.2.2 _ A l[k] (by simp) rfl
  ·rw[decide_eq_false A];refine Tf (by omega) (by omega) ?_;refine kJ (B:=H) (vs:=[.bool true]) rfl rfl (by rw[rD];simp only[VC];omega) (by simp;rfl) λS I U _=>?_;have V:AC w1 S:=n2.st U;rw[JO,Xq,zN3 _ (by omega) (by omega),<-Ci d]at I;refine rA ⟨rfl,d,Wg hb λ_=>⟨by omega,by omega⟩,?_,I,V⟩;rw[Ci d,JU];exact⟨r,by simp,λa W b hb=>by simp only[Qc]at hb;subst hb;exact λe=>A (e ▸ W)⟩
 ·have y:k=l.length:=by omega
  obtain rfl:=y;rw[Qg]at r
  have z:∀x∈l,0<=x/\x<sz:=λx X=>by
   have y:=QI.1 X;obtain⟨j,J,rfl⟩:=y;exact hb j J J
  refine rX G rfl (ite (λE=>?_) (λE=>⟨.f λo=>E o.1,stp⟩));refine rX G rfl ?_;exact ite (λF=>⟨.t ⟨E,F,z,r⟩,stp⟩) (λF=>⟨.f λo=>F o.2.1,stp⟩)
theorem zLP{size:Int}:Sp PP 153 #[.int .i64 size] w λv w'=>(∃z,v=.tuple #[z,.int .i64 (LM size).2]/\EA w.heap.size w' z (LM size).1)/\AC w w':=by
 refine eN ?_;refine Ao λb1 w1 n1 Q=>?_;unfold LM;refine ite (λA=>?_) (λA=>?_)
 ·rw[if_pos (.inl A)];refine AJ (cs:=[.int .i64 0,.slice none 0 0]) rfl (DH (vs:=[.int .i64 0,.slice none 0 0]) rfl rfl rfl (CM _ _ _ _) λh C l _=>?_);have S:AC w h:=n1.st l;refine AR rfl ?_;exact⟨⟨_,rfl,Pb _ _⟩,stp⟩
 refine ite (λE=>?_) (λE=>?_)
 ·rw[if_pos (.inr E)];refine AJ (cs:=[.int .i64 0,.slice none 0 0]) rfl (DH (vs:=[.int .i64 0,.slice none 0 0]) rfl rfl rfl (CM _ _ _ _) λh C l _=>?_);have S:AC w h:=n1.st l;refine AR rfl ?_;exact⟨⟨_,rfl,Pb _ _⟩,stp⟩
 rw[if_neg (by omega)];have o:=QU (show(0:Int)<=size by omega);obtain⟨N,rfl⟩:=o;rw[QW];have U:=dW N;refine AJ (cs:=[.int .i64 (N:Nat),.slice none 0 0]) rfl (Ao λV h n2 C=>DH (vs:=[.int .i64 (N:Nat),.slice none 0 0]) rfl rfl rfl (CM _ _ _ _) λW F X _=>?_);have s3:AC w1 W:=n2.st X;refine cN 16 [5] 16 N (λk u=>∃a c,Bk u V [.int .i64 (N:Nat),.slice a k c] 227/\AD w1.heap.size 3 u (.slice a k c) ((Bf N).take k)/\AC w1 u) ⟨none,0,F,AD.nil _ _ _,stp⟩ ?_;rintro k g u hk ⟨a,c,p,O,e⟩;clear F;refine ite (λBS=>?_) (λY=>?_)
 ·have b:k<N:=by omega
  refine rX p rfl (rA (rA ?_));refine bS ((N:Int) - 1 - k) λb4 Z e4 _ S4=>Aw (u:=w1) ⟨rfl,rfl⟩ O.up S4 (by rw[Qm];omega) λv5 w5 r f5 s5=>?_;have d:=(p.mv (w:=Z)).fro O.up f5
  have t:((Bf N).take k++[((N:Int) - 1 - k)])=(Bf N).take (k+1):=by
   rw[zLz b,show(((N - 1 - k:Nat)):Int)=(N:Int) - 1 - k by omega]
  rw[t]at r;have x:((Bf N).take (k+1)).length=k+1:=by rw[Qm];omega
  have G:=r.shape;rw[x]at G;obtain⟨H,I,rfl⟩:=G;refine rS d [.slice H (k+1) I] (by simp;rfl) λy J f _=>?_;have K:AC w1 y:=n2.st f;exact rA ⟨rfl,b,H,I,J,r.frc f d,K⟩
 ·have o:k=N:=by omega
  obtain rfl:=o;refine Cn (B:=p) rfl rfl ?_;have L:=Q.mv (w:=u);refine rS L [.int .i64 (k:Nat),.slice a k c] (CM _ _ _ _) λy J f _=>?_;have K:AC w y:=n1.st f;refine AR rfl ?_;have M:=O.frc f L;rw[Qj (by omega)]at M;exact⟨⟨_,rfl,(EA.mk M).older⟩,stp⟩
theorem zKR{sz m:Int}{c:Nat}{l:List Int}(h:AQ w (.slice a n c) l)(hn:l.length<=100000):
  Sp PP 258 #[Ss sz a n c,.int .i64 m] w λv w'=>(∃r,v=.tuple #[r,.int .i64 (FW (sz,l) m).2]/\EA w.heap.size w' r (FW (sz,l) m).1)/\AC w w':=by
 have t:=h.len;obtain rfl:=t;refine eN ?_;refine BM λb1 w1 n1 B1=>Ao λJ x n2 W=>?_;have X:=n1.b;have Y:=n2.b;have Z:=n1.s;have a0:=n2.s
 have zero:∀(e:Int) (u:World),AC x u->FW (sz,l) m=(zP,e)->∀d,Bk d J [.int .i64 0,.slice none 0 0] 227->Fr (λi=>i=J) u d->(∃r,Value.tuple #[Ss 0 none 0 0,.int .i64 e]=.tuple #[r,.int .i64 (FW (sz,l) m).2]/\EA w.heap.size d r (FW (sz,l) m).1)/\AC w d:=by
  intro e u s ht d _ f;rw[ht];exact⟨⟨_,rfl,Pb _ _⟩,n2.st f⟩
 refine Cn rfl rfl ?_;refine AA (vO (h.up (w':=x)) (by omega)) ?_;rintro v w3 ⟨⟨rfl,p⟩|⟨rfl,p⟩,e3⟩
 ·refine ite (λF=>?_) (λF=>?_)
  ·refine AJ (cs:=[.int .i64 0,.slice none 0 0]) rfl ?_;refine DH (vs:=[.int .i64 0,.slice none 0 0]) rfl rfl rfl (CM _ _ _ _) λd y f _=>?_;refine AR rfl ?_;exact zero 1 _ stp (by unfold FW;rw[if_pos p,if_pos (.inl F)]) d y f
  refine Cx rfl ?_;refine ite (λG=>?_) (λG=>?_)
  ·refine AJ (cs:=[.int .i64 0,.slice none 0 0]) rfl ?_;refine DH (vs:=[.int .i64 0,.slice none 0 0]) rfl rfl rfl (CM _ _ _ _) λd y f _=>?_;refine AR rfl ?_;exact zero 1 _ stp (by unfold FW;rw[if_pos p,if_pos (.inr G)]) d y f
  refine Cx rfl ?_;refine AA (lS (h.up (w':=w3)) (by omega)) ?_;rintro v d ⟨⟨rfl,hi⟩|⟨rfl,hi⟩,e4⟩
  ·refine AJ (cs:=[.int .i64 0,.slice none 0 0]) rfl ?_;refine DH (vs:=[.int .i64 0,.slice none 0 0]) rfl rfl rfl (CM _ _ _ _) λH B5 f5 _=>?_;refine AR rfl ?_;exact zero 150 _ stp (by unfold FW;rw[if_pos p,if_neg (λh=>h.elim F G),if_pos hi]) H B5 f5
  ·have hg:FW (sz,l) m=((sz,l++[m]),0):=by unfold FW;rw[if_pos p,if_neg (λh=>h.elim F G),if_neg hi]
   rw[hg];refine dT (λi=>i=J\/x.heap.size<=i) (oL [0,1,2,3,5] (.two 4 (oL [6,7,8,9,10] .nil) 6 (oL [4,7,8,9,10] .nil))) λK e1=>?_;refine NE rfl (by omega) ?_;refine NE rfl (by omega) ?_;refine⟨?_,?_⟩
   ·refine AA (ZZ (h.up (w':=K)) (by omega)) ?_;rintro v H ⟨L,M⟩;refine⟨M.e.fr,?_⟩;refine bS m λb6 I O _ Q=>⟨O.e.fr,?_⟩;refine Aw (u:=K) ⟨rfl,rfl⟩ L.up Q (by omega) λv7 S z f7 U=>⟨U.e.mono λi _ hi=>.inr (Qw (lz x K) hi),?_⟩;have t:=z.shape;obtain⟨A,C,rfl⟩:=t;refine Aq (cs:=[.int .i64 sz,.slice A (l++[m]).length C]) rfl ?_;have E:=W.mv (w:=S);refine rS E [.int .i64 sz,.slice A (l++[m]).length C] (CM _ _ _ _) λV B8 o _=>?_;have s8:AC w V:=n2.st o;refine⟨o.mono λi _ hi=>.inl hi,?_⟩;refine AR rfl ?_;exact⟨⟨_,rfl,(EA.mk (z.frc o E)).older⟩,stp⟩
   ·refine bS m λb6 I O _ Q=>⟨O.e.fr,?_⟩;refine AA (ZZ (h.up (w':=I)) (by omega)) ?_;rintro v H ⟨L,M⟩;refine⟨M.e.fr,?_⟩;refine Aw (u:=I) ⟨rfl,rfl⟩ L.up (Q.up (w':=H)) (by omega) λv7 S z f7 U=>⟨U.e.mono λi _ hi=>.inr (Qw (lz x I) hi),?_⟩;have t:=z.shape;obtain⟨A,C,rfl⟩:=t;refine Aq (cs:=[.int .i64 sz,.slice A (l++[m]).length C]) rfl ?_;have E:=W.mv (w:=S);refine rS E [.int .i64 sz,.slice A (l++[m]).length C] (CM _ _ _ _) λV B8 o _=>?_;have s8:AC w V:=n2.st o;refine⟨o.mono λi _ hi=>.inl hi,?_⟩;refine AR rfl ?_;exact⟨⟨_,rfl,(EA.mk (z.frc o E)).older⟩,stp⟩
 ·refine AJ (cs:=[.int .i64 0,.slice none 0 0]) rfl ?_;refine DH (vs:=[.int .i64 0,.slice none 0 0]) rfl rfl rfl (CM _ _ _ _) λd y f _=>?_;refine AR rfl ?_;exact zero 130 _ stp (by unfold FW;rw[if_neg p]) d y f
def Fc (l:List Int):List (List Value):=(List.range l.length).reverse.map λi:Nat=>[.int .i64 i,.int .i64 (l.getD i 0)]
theorem gQ(l:List Int):(Fc l).length=l.length:=by simp[Fc]
theorem zMW{l:List Int}:∀x∈Fc l,x.length=2:=by
 intro x b;unfold Fc at b;obtain⟨k,_,rfl⟩:=Qq.1 b;rfl
theorem tY{l:List Int}(h:k<l.length):(Fc l)[k]? = some [.int .i64 ((l.length - 1 - k:Nat):Int),.int .i64 (l[l.length - 1 - k]'(by omega))]:=by grind[Fc]
structure Nm (l:List Int) (a:OA) (c bs:Nat) (u:World):Prop where
 s:AQ u (.slice a l.length c) l
 b:Bk u bs [.slice a l.length c] 63
theorem zOz{l:List Int}{c bs:Nat}(F:l.length<=1000000):
  K0 PP 417 [] [.pointer (some ⟨bs,0,none⟩)] (Nm l a c bs) (Fc l):=by
 refine⟨λy J G w H z t A h0=>?_⟩;refine eN ?_;refine AF ((t 0 w h0).b.at.cell0 rfl) (rA (Gf Ab 4 [] 3 (λv u=>∃k:Nat,k<=l.length/\∃j:Int,v=.int .i64 j/\j=(l.length:Int) - 1 - k/\J k u) (λv _=>((Go.RowKit.intOf v)+1).toNat) rfl ⟨0,by omega,_,rfl,by omega,h0⟩ ?_));rintro v g u ⟨k,I,j,rfl,K,d⟩;refine ite (λh=>?_) (λBS=>?_)
 ·have o:=QU h;obtain⟨f,rfl⟩:=o;have p:k<l.length:=by omega
  have r:f=l.length - 1 - k:=by omega
  have hd:=t _ _ d;refine AF (hd.b.at.cell0 rfl) (Bp hd.s (x:=l[f]'(by omega)) (by simp) λL M C=>AF (C.cell0 rfl) ?_);have E:(Fc l)[k]? = some [.int .i64 (f:Nat),.int .i64 (l[f]'(by omega))]:=by subst r;exact tY p
  refine IE rfl rfl rfl rfl (A k u _ E d) ?_;rintro b u' (⟨rfl,e⟩|⟨rfl,e⟩)
  ·refine rA ⟨⟨k+1,by omega,_,rfl,by omega,e⟩,?_⟩;show(((f:Int) - 1)+1).toNat<((f:Int)+1).toNat;omega
  ·exact .inr e
 ·have o:k=l.length:=by omega
  obtain rfl:=o;rw[<-gQ l]at d;exact .inl d
theorem zI{c:Nat}{l:List Int}(h:AQ w (.slice a n c) l):
  Sp PP 397 #[.slice a n c] w λv w'=>(∃bs,v=.func (.func 417) #[] #[.pointer (some ⟨bs,0,none⟩)]/\w.heap.size<=bs/\Nm l a c bs w')/\AC w w':=by
 have b:=h.len;obtain rfl:=b;refine eN ?_;refine BM λd w1 n1 e=>?_;exact⟨⟨d,rfl,n1.lo,h.up,e.mv⟩,stp⟩
theorem YV{l:List Int}{y:List Value}(b:m<=l.length)(h:(Fc (l.drop m))[k]? = some y):∃c:k<l.length - m,y=[.int .i64 (((l.length - m) - 1 - k:Nat):Int),.int .i64 (l[l.length - 1 - k]'(by omega))]/\(l.drop (l.length - (k+1))).reverse=(l.drop (l.length - k)).reverse++[l[l.length - 1 - k]'(by omega)]:=by grind[List.getElem?_eq_some_iff,gQ,List.length_drop,zPp,tY]
theorem zG{sz m:Int}{c:Nat}{l:List Int}(h:AQ w (.slice a n c) l)(hn:l.length<=100000)(hm:-9223372036854775808<=m/\m<=9223372036854775807):
  Sp PP 380 #[Ss sz a n c,.int .i64 m] w λv w'=>(∃lv F,v=.tuple #[lv,F,.int .i64 (CE (sz,l) m).2.2]/\AD w.heap.size 3 w' lv (CE (sz,l) m).1/\EA w.heap.size w' F (CE (sz,l) m).2.1)/\AC w w':=by
 have x:=h.len;obtain rfl:=x;refine eN ?_;refine BM λb1 w1 n1 B1=>Ao λQ S n2 B3=>?_;have a1:=n1.b;have a3:=n2.b;have a4:=n1.s;have a5:=n2.s
 have zero:∀(e:Int) (u:World),AC S u->CE (sz,l) m=([],zP,e)->∀d,Bk d Q [.int .i64 0,.slice none 0 0] 227->Fr (λi=>i=Q) u d->(∃lv F,Value.tuple #[.slice none 0 0,Ss 0 none 0 0,.int .i64 e]=.tuple #[lv,F,.int .i64 (CE (sz,l) m).2.2]/\AD w.heap.size 3 d lv (CE (sz,l) m).1/\EA w.heap.size d F (CE (sz,l) m).2.1)/\AC w d:=by
  intro e u s U d _ z;rw[U];exact⟨⟨_,_,rfl,AD.nil _ _ _,Pb _ _⟩,n2.st z⟩
 refine Cx rfl ?_;refine eH λleft p=>?_;refine Cn rfl rfl ?_;refine AA (vO (h.up (w':=S)) (by omega)) ?_;rintro v r ⟨⟨rfl,G⟩|⟨rfl,G⟩,e3⟩
 ·refine ite (λL=>?_) (λL=>?_)
  ·refine AJ (cs:=[.int .i64 0,.slice none 0 0]) rfl ?_;refine DH (vs:=[.int .i64 0,.slice none 0 0]) rfl rfl rfl (CM _ _ _ _) λd A z _=>?_;refine AR rfl ?_;exact zero 1 _ stp (by unfold CE;rw[if_pos G,if_pos L]) d A z
  have p:=p (by omega);refine ite (λh2=>?_) (λh2=>?_)
  ·refine AJ (cs:=[.int .i64 0,.slice none 0 0]) rfl ?_;refine DH (vs:=[.int .i64 0,.slice none 0 0]) rfl rfl rfl (CM _ _ _ _) λd A z _=>?_;refine AR rfl ?_;exact zero 140 _ stp (by unfold CE;rw[if_pos G,if_neg L,if_pos (by dsimp only;omega)]) d A z
  have x:=QU (show(0:Int)<=m by omega);obtain⟨M,rfl⟩:=x;have x:=QU (show(0:Int)<=left by omega);obtain⟨K,rfl⟩:=x;have hK:K=l.length - M:=by omega
  have C:K<=l.length:=by omega
  have U:CE (sz,l) (M:Nat)=((l.drop (l.length - M)).reverse,(sz,l.take K),0):=by
   unfold CE;rw[if_pos G,if_neg L,if_neg (by dsimp only;omega),hK];rfl
  rw[U];refine Ao λb4 d n4 A=>?_;have a6:=n4.b;have a9:=n4.s;have z3:=lz S r;refine Cx rfl ?_;refine fS (some K) none h C (by simp) λV W X=>?_;rw[rT]at X;refine AA (zI (X.up (w':=d))) ?_;rintro v Y ⟨⟨bs,rfl,b0,D5⟩,e5⟩;have z5:=lz d Y;have C4:=A.mv (w:=Y);have H:(l.drop K).length=l.length - K:=by simp
  have Z:AQ w (.slice V (l.drop K).length W) (l.drop K):=by rw[H];exact X
  have T0:∀i,i<=M->(l.drop (l.length - i)).reverse.length=i:=λi hi=>by rw[List.length_reverse,QR];omega
  refine ID Ab rfl (gf:=417) (first:=[]) (cap:=[.pointer (some ⟨bs,0,none⟩)]) rfl rfl (zOz (l:=l.drop K) (a:=V) (c:=W) (bs:=bs) (by simp;omega)) zMW
   (λi u=>i<=M/\∃oa oc,Bk u b4 [.slice oa i oc] 63/\Bk u bs [.slice V (l.drop K).length W] 63/\AD r.heap.size 3 u (.slice oa i oc) (l.drop (l.length - i)).reverse/\AC r u) (λ_ _=>False) ?_ ?_ ?_
   ⟨by omega,none,0,C4,D5.b,by have:=AD.nil (α:=Int) r.heap.size 3 Y;simpa using this,stp⟩ ?_ ?_ ?_
  ·rintro i u u' ⟨hi,oa,oc,f,t,o,E⟩ q;exact⟨hi,oa,oc,f.qt q,t.qt q,o.qt q,E.qt (q.mono (by omega))⟩
  ·rintro _ u u' h;exact h.elim
  ·rintro i u ⟨hi,oa,oc,f,t,o,E⟩;exact⟨Z.up,t⟩
  ·rintro i y u hx ⟨hi,oa,oc,f,t,o,E⟩;have hy:=YV C hx;obtain⟨b2,rfl,I⟩:=hy;refine⟨Fr.refl _ _,λu1 q=>?_⟩;have f:=f.qt q;have t:=t.qt q;have o:=o.qt q;have E:=E.qt (q.mono (by omega));refine rX f rfl ?_;refine bS (l[l.length - 1 - i]'(by omega)) λb6 w6 e6 _ S6=>?_;refine Aw (u:=r) ⟨rfl,rfl⟩ (o.up (w':=w6)) S6 (by rw[T0 i hi];omega) λv7 w7 O7 f7 s7=>?_;have r1:=(f.mv (w:=w6)).fro o.up f7;have r2:=(t.mv (w:=w6)).fro o.up f7;rw[<-I]at O7;have q7:=O7.shape;rw[T0 (i+1) (by omega)]at q7;obtain⟨a7,c7,rfl⟩:=q7;refine rS r1 [.slice a7 (i+1) c7] (by simp;rfl) λw8 B8 O _=>?_;have s8:AC r w8:=n4.st O;exact⟨⟨by omega,a7,c7,B8,r2.fr O (by omega),O7.frc O r1,s8⟩,λi=>r.heap.size<=i,((Fr.fr e6.e).trans s7.e).trans (O.mono λi _ hi=>by subst hi;omega)⟩
  ·rintro D u ⟨hi,oa,oc,f,t,o,E⟩ hD hd;rw[gQ,H]at hi f o;have hM:l.length - K=M:=by omega
   rw[hM]at hi f o;refine dD (λi=>i=Q\/u.heap.size<=i) (Hq 12 0) λu1 e1=>?_;have zu:=lz r u;have zb:=f.lt;refine tX f rfl (by omega) ?_;refine NE rfl (by omega) (NE rfl (by omega) ?_);refine eE none (some K) h (by simp) (by simpa using C) λa8 c8 S8=>?_;rw[zQJ]at S8;refine AA (ZZ (S8.up (w':=u1)) (by rw[Qm];omega)) ?_;rintro v u2 ⟨O2,e2⟩;refine⟨e2.e.fr,?_⟩;have x:=O2.shape;obtain⟨a2,c2,rfl⟩:=x;refine Aq (cs:=[.int .i64 sz,.slice a2 (l.take K).length c2]) rfl ?_;have C3:=B3.mv (w:=u2);refine rS C3 [.int .i64 sz,.slice a2 (l.take K).length c2] (CM _ _ _ _) λw9 B9 J _=>?_;have s9:AC w w9:=n2.st J;refine⟨J.mono λi _ hi=>.inl hi,?_⟩;have a0:=J.nc _ _ (e2.e.nc _ _ (e1.e.nc _ _ hd rfl) rfl) rfl;have Oo:=((o.up (w':=u2)).frc J C3);have Op:=O2.frc J C3;refine Fj a0 λu' q=>?_;have b3:=B9.qt (q 0 (by omega));refine AR rfl ?_;exact⟨⟨_,_,rfl,(Oo.qt (q 0 (by omega))).older,(EA.mk (Op.qt (q 0 (by omega)))).older⟩,s9.qt (q _ (by have:=lz w r;omega))⟩
  ·rintro c D u h;exact h.elim
 ·refine AJ (cs:=[.int .i64 0,.slice none 0 0]) rfl ?_;refine DH (vs:=[.int .i64 0,.slice none 0 0]) rfl rfl rfl (CM _ _ _ _) λd A z _=>?_;refine AR rfl ?_;exact zero 130 _ stp (by unfold CE;rw[if_neg G]) d A z
theorem zV(sz:Int)(l:List Int):(Ed (sz,l)).2.2=(CE (sz,l) 1).2.2 /\
  ((CE (sz,l) 1).2.2=0->(CE (sz,l) 1).1[0]? = some (Ed (sz,l)).1/\(CE (sz,l) 1).2.1=(Ed (sz,l)).2.1) /\
  ((CE (sz,l) 1).2.2≠0->Ed (sz,l)=(0,zP,(CE (sz,l) 1).2.2)):=by grind[Ed,CE,zP,PS,List.length_pos_iff,List.getElem?_eq_getElem,List.drop_eq_getElem_cons,List.drop_of_length_le,List.dropLast_eq_take]
theorem zKS{sz:Int}{c:Nat}{l:List Int}(h:AQ w (.slice a n c) l)(M:l.length<=100000):
  Sp PP 333 #[Ss sz a n c] w λv w'=>(∃t,v=.tuple #[.int .i64 (Ed (sz,l)).1,t,.int .i64 (Ed (sz,l)).2.2]/\EA w.heap.size w' t (Ed (sz,l)).2.1)/\AC w w':=by
 have d:=h.len;obtain rfl:=d;refine eN ?_;refine BM λb1 w1 n1 B1=>Ao λO G n2 H=>?_;have Q:=n1.b;have S:=n2.b;have U:=n1.s;have V:=n2.s;have d:=zV sz l;obtain⟨W,X,Y⟩:=d;refine Cn rfl rfl ?_;refine AA (zG (m:=1) (h.up (w':=G)) M (by decide)) ?_;rintro v I ⟨⟨lv,t,rfl,y,⟨J,K,rfl,Z⟩⟩,e3⟩;have d:=y.shape;obtain⟨ao,co,rfl⟩:=d;refine Ao λb4 w4 n4 B4=>DH (vs:=[.int .i64 (CE (sz,l) 1).2.1.1,.slice J (CE (sz,l) 1).2.1.2.length K]) rfl rfl rfl (CM _ _ _ _) λL B5 f5 _=>?_;have s5:AC I L:=n4.st f5;refine ite (λf=>?_) (λf=>?_)
 ·rw[Y f];refine AJ (cs:=[.int .i64 0,.slice none 0 0]) rfl ?_;have r:=H.mv (w:=L);refine rS r [.int .i64 0,.slice none 0 0] (CM _ _ _ _) λz B6 o _=>?_;have A:AC w z:=n2.st o;refine AR rfl ?_;exact⟨⟨_,rfl,Pb _ _⟩,A⟩
 ·have f:=Q2.1 f;have d:=X f;obtain⟨C,q2⟩:=d;rw[<-q2];have a0:=n4.b;have z3:=lz G I;refine dD (λi=>i=O) (Hq 7 0) λE e1=>CN (y.sl.up (w':=E)) (x:=(Ed (sz,l)).1) (i:=0) C λb7 o7 A7 p=>?_;have BS:=y.lt (λe=>by rw[e]at C;cases C);obtain⟨g,F,a1,_⟩:=BS;refine AP (A7.cell0 rfl) (by rw[F]at p;cases p;omega) (MW (B:=B5) rfl rfl (by omega) ?_);have r:=H.mv (w:=E);refine rS r [.int .i64 (CE (sz,l) 1).2.1.1,.slice J (CE (sz,l) 1).2.1.2.length K] (CM _ _ _ _) λz B6 o _=>?_;have A:AC w z:=n2.st o;refine⟨o,?_⟩;refine AR rfl ?_;rw[W,f];exact⟨⟨_,rfl,(EA.mk ((Z.up (w':=E)).frc o r)).older⟩,A⟩
instance:AL AN:=⟨4,λx=>[.int .i64 x.key.slot,.int .i64 x.key.dir,.int .i64 x.key.v,.int .i64 x.d],λ_=>rfl,by intro x u hu;simp at hu;rcases hu with rfl|rfl|rfl|rfl<;>rfl,by decide⟩
abbrev dJ:List TypeId:=[312,422]
theorem FM.wrote{b c most:Nat}{s:TS}(T:FM B w b a c most s)(f:Fr (I9 B b a c most) w w'):BP B dJ w w':=by
 obtain⟨h0,R,T,_⟩:=T;refine Fr.mono f λi hi hd=>?_;rcases hd with rfl|hd
 ·exact .mk h0 T.cell.h (by decide)
 ·have d:=T.row;rcases d with⟨_,a,h⟩|d
  ·exact absurd h (hd.2.2 a)
  ·have l:=d.2;rcases l with⟨h,_⟩|⟨g,cap,o,h,hb,p,_⟩
   ·have:=hd.2.1;rw[h]at this;cases this
   ·have e:=hd.2.1;rw[h]at e;simp only[Value.blk]at e;cases e;exact .mk hb p (by decide)
theorem FM.kept{C b c most:Nat}{s:TS}{es:List TypeId}(T:FM B w b a c most s)(f:BP C es w w')(d:312∉es)(e:422∉es):FM B w' b a c most s:=by
 obtain⟨h0,R,T,r⟩:=T;exact⟨h0,R,⟨T.cell.kept f d,T.row.kept f e,T.len,T.tab,T.bnd,T.may,T.zero⟩,r⟩
theorem zPR{b c most:Nat}{s:TS}{k:Aj}{n:Int}(T:FM B w b a c most s):
  Sp PP 334 #[.pointer (some ⟨b,0,none⟩),agg k,.int .i64 n] w λv w'=>v=.int .i64 (DR most s k n).2/\FM B w' b a c most (DR most s k n).1/\BP B dJ w w':=
 (Rh T).mono λ_ _ ⟨d,e,f⟩=>⟨d,e,T.wrote f⟩
theorem t1{x:AN}:Sp PP 332 #[agg x] w λv w'=>v=.int .i64 (if ED x then 0 else 1)/\AC w w':=by
 refine eN ?_;refine BM λb w1 n1 d=>AA (sA (most:=1) (w:=w1)) ?_;rintro v y ⟨⟨h,_⟩|⟨N,z,ta,tc,A,_,_,rfl,T⟩,C⟩
 ·omega
 have f:N=1:=by omega
 obtain rfl:=f;refine iT rfl (rG d x.key (AA (zPR (k:=x.key) (n:=0) T) ?_));rintro v l ⟨rfl,E,o⟩;have F:AC w1 l:=⟨BP.st Le.e o (Qe _)⟩
 have p:(DR 1 cW x.key 0).2=if GU x.key then 0 else 1:=by
  unfold DR;split
  ·rfl
  ·rfl
 rw[p];refine rX d rfl (ite (λr=>?_) (λr=>?_))
 ·rw[if_neg (λh:ED x=>by have:=h.2.1;omega)];exact⟨rfl,stp⟩
 refine rX d rfl (ite (λt=>?_) (λt=>?_))
 ·rw[if_neg (λh:ED x=>by have:=h.2.2;omega)];exact⟨rfl,stp⟩
 ·refine⟨?_,stp⟩;by_cases c:GU x.key
  ·rw[if_pos c,if_pos ⟨c,by omega,by omega⟩];rfl
  ·rw[if_neg c,if_neg (λh:ED x=>c h.1)];rfl
theorem zIz{d:Value}{x:AN}:Sp PP 331 #[d,agg x] w λv w'=>v=.int .i64 (if ED x then 150 else 1)/\AC w w':=by
 refine eN ?_;refine BM λb w1 n1 e=>rG e x ?_;have M:=t1 (x:=x) (w:=w1);by_cases c:ED x
 ·rw[if_pos c]at M ⊢;refine AA M ?_;rintro v f ⟨rfl,l⟩;refine iF (· rfl) ?_;exact⟨rfl,stp⟩
 ·rw[if_neg c]at M ⊢;refine AA M ?_;rintro v f ⟨rfl,l⟩;refine iT (by first|omega|decide|(dsimp only<;>omega)) ?_;exact⟨rfl,stp⟩
structure Em (B:Nat) (w:World) (b gs size bt:Nat) (ta:OA) (tc:Nat) (ts:TS) (fa:OA) (fc:Nat) (fr:List Int) (sc:Nat) (st:List AN) (bm:Nat) (m:List (Int×Value)) (ch:Int->List Int):Prop where
 lo:B<=b/\B<=bm/\B<=gs
 cell:Bk w b [.pointer (some ⟨bt,0,none⟩),.int .i64 size,.slice fa fr.length fc,.slice (some ⟨gs,0,none⟩) size sc,.map (some bm)] 236
 tab:FM B w bt ta tc size ts
 free:Bh 3 w (.slice fa fr.length fc) fr
 sts:AD B 341 w (.slice (some ⟨gs,0,none⟩) size sc) st
 map:BN PP 3 w bm m
 rows:∀s v,(s,v)∈m->AD B 3 w v (ch s)/\ch s≠[]
 empt:∀s,s∉m.map (·.1)->ch s=[]
 apart:∀s v s' v',(s,v)∈m->(s',v')∈m->s≠s'->∀g,Value.blk v=some g->Value.blk v'≠some g
 apart2:fr≠[]->∀s v,(s,v)∈m->∀g,Value.blk v=some g->Value.blk (.slice fa fr.length fc)≠some g
structure PR (R:Nat->Prop) (b gs size bt:Nat) (ta:OA) (tc:Nat) (fa:OA) (fc:Nat) (fr:List Int) (bm:Nat) (m:List (Int×Value)):Prop where
 b:R b
 bt:R bt
 ta:∀g,Value.blk (.slice ta (2*size) tc)=some g->R g
 gs:R gs
 bm:R bm
 fr:fr≠[]->∀g,Value.blk (.slice fa fr.length fc)=some g->R g
 rows:∀s v,(s,v)∈m->∀g,Value.blk v=some g->R g
def gR (R:Nat->Prop) (w w':World):Nat->Prop:=λi=>R i\/(w.heap.size<=i/\i<w'.heap.size)
abbrev gP (R:Nat->Prop) (w:World):Nat->Prop:=λi=>R i\/w.heap.size<=i
def Ch (R:Nat->Prop) (B:Nat) (w:World) (b gs size:Nat) (L:List AN):Prop:=
 ∃bt ta tc ts fa fc fr sc st bm m ch,Em B w b gs size bt ta tc ts fa fc fr sc st bm m ch/\GV size ts fr st/\Kq fr st L/\WE fr st ch/\PR R b gs size bt ta tc fa fc fr bm m
abbrev psE:List TypeId:=[236,312,422,3,Fp]
abbrev WF (gs B:Nat) (w w':World):Prop:=Cl (λi=>i=gs) B psE w w'
section
variable {B C:Nat} {w w':World} {b gs size bt:Nat} {ta:OA} {tc:Nat} {ts:TS} {fa:OA} {fc:Nat} {fr:List Int} {sc:Nat} {st:List AN} {bm:Nat} {m:List (Int×Value)} {ch:Int->List Int} {es:List TypeId} {L:List AN}
theorem Em.up[Le w w'](h:Em B w b gs size bt ta tc ts fa fc fr sc st bm m ch):Em B w' b gs size bt ta tc ts fa fc fr sc st bm m ch:=
 ⟨h.lo,h.cell.mv,h.tab.up,h.free.up,h.sts.up,h.map.up,λs v c=>⟨(h.rows s v c).1.up,(h.rows s v c).2⟩,h.empt,h.apart,h.apart2⟩
theorem Ch.up[Le w w'](h:Ch R B w b gs size L):Ch R B w' b gs size L:=by
 obtain⟨bt,ta,tc,ts,fa,fc,fr,sc,st,bm,m,ch,h,r⟩:=h;exact⟨bt,ta,tc,ts,fa,fc,fr,sc,st,bm,m,ch,h.up,r⟩
theorem Em.look(h:Em B w b gs size bt ta tc ts fa fc fr sc st bm m ch)(s:Int):AD B 3 w ((An m s).getD (.slice none 0 0)) (ch s) /\
  (∀g,Value.blk ((An m s).getD (.slice none 0 0))=some g->∃v,(s,v)∈m/\Value.blk v=some g):=by
 cases c:An m s with
 |none =>
  have e:=h.empt s (jV.1 c);rw[e];exact⟨AD.nil _ _ _,λg c=>by cases c⟩
 |some v=>exact⟨(h.rows s v (SQ c)).1,λg d=>⟨v,SQ c,d⟩⟩
end
theorem Ch.lt{b c size:Nat}{L:List AN}(h:Ch R B w b c size L):B<=b/\b<w.heap.size/\B<=c/\L.length<=size/\CJ L/\1<=size/\size<=400/\R b:=by
 obtain⟨e,ta,tc,ts,f,l,fr,o,st,p,m,r,h,T,M,C,Z⟩:=h;have t:=T.len M;have v:=T.cnt;have d:=T.ok;exact⟨h.lo.1,h.cell.lt,h.lo.2.2,by omega,M.ris,by have:=d.1;omega,by have:=d.2.1;omega,Z.b⟩
theorem jG{α:Type}[AL α]{e:TypeId}{v:Value}{l:List α}(h:AD B e w v l)(c:l≠[]){g:Nat}(b:Value.blk v=some g):g<w.heap.size:=by
 have d:=h.lt c;obtain⟨p,f,_,o⟩:=d;rw[f]at b;cases b;exact o
theorem Ch.mono{R':Nat->Prop}{b p size:Nat}{L:List AN}(h:Ch R B w b p size L)(d:∀i,i<w.heap.size->R i->R' i):Ch R' B w b p size L:=by
 obtain⟨x,ta,tc,ts,y,z,fr,A,st,E,m,F,h,T,M,C,Z⟩:=h;have G:st≠[]:=by intro e;have:=T.stl;rw[e]at this;have:=T.ok.1;simp at *;omega
 have H:=h.tab;obtain⟨_,J,f,_⟩:=H;refine⟨x,ta,tc,ts,y,z,fr,A,st,E,m,F,h,T,M,C,d _ h.cell.lt Z.b,d _ f.cell.lt Z.bt,λg c=>d _ ?_ (Z.ta g c),d _ (jG h.sts G rfl) Z.gs,d _ h.map.lt Z.bm,λr g c=>d _ ?_ (Z.fr r g c),λs v o g c=>d _ (jG (h.rows s v o).1 (h.rows s v o).2 c) (Z.rows s v o g c)⟩
 ·refine jG f.row (λe=>?_) c;have l:=f.len;have t:=f.bnd;rw[e]at l;simp at l;omega
 ·have I:=h.free.blkN r;obtain⟨K,l,t⟩:=I;rw[l]at c;cases c;exact t
theorem Ch.end{b c size:Nat}{L:List AN}(h:Ch (gP R w) B w' b c size L):Ch (gR R w w') B w' b c size L:=
 h.mono λi hi d=>d.imp id λh=>⟨h,hi⟩
theorem Ch.gr{b c size:Nat}{L:List AN}(h:Ch R B w' b c size L):Ch (gR R w w') B w' b c size L:=h.mono λ_ _ d=>.inl d
theorem Ch.fr{b l size:Nat}{L:List AN}(h:Ch R B w b l size L)(f:Fr D w w')(hd:∀i,R i->¬D i):Ch R B w' b l size L:=by
 obtain⟨o,ta,tc,ts,p,r,fr,t,st,x,m,y,h,T,M,C,Z⟩:=h;have z:=h.tab;obtain⟨h0,A,c,E⟩:=z
 exact⟨o,ta,tc,ts,p,r,fr,t,st,x,m,y,⟨h.lo,h.cell.fr f (hd _ Z.b),⟨h0,A,⟨c.cell.fr f (hd _ Z.bt),c.row.fr f λg _ d=>hd _ (Z.ta g d),c.len,c.tab,c.bnd,c.may,c.zero⟩,E⟩,
  h.free.frN f λg F d=>hd _ (Z.fr F g d),h.sts.fr f λg _ d=>by cases d;exact hd _ Z.gs,h.map.fr f (hd _ Z.bm),λs v e=>⟨(h.rows s v e).1.fr f λg _ d=>hd _ (Z.rows s v e g d),(h.rows s v e).2⟩,h.empt,h.apart,h.apart2⟩,T,M,C,Z⟩
theorem PR.tab{b d size c:Nat}{ta:OA}{tc:Nat}{e:OA}{l:Nat}{fr:List Int}{o:Nat}{m:List (Int×Value)}(Z:PR R b d size c ta tc e l fr o m)(f:Fr (I9 B c ta tc size) w w'):Fr R w w':=
 f.mono λi _ hi=>hi.elim (λh=>h ▸ Z.bt) λh=>Z.ta i h.2.1
theorem PR.look{b d size e:Nat}{ta:OA}{tc:Nat}{f:OA}{l:Nat}{fr:List Int}{o:Nat}{m:List (Int×Value)}(Z:PR R b d size e ta tc f l fr o m){s:Int}{g:Nat}(h:Value.blk ((An m s).getD (.slice none 0 0))=some g):R g:=by
 cases c:An m s with
 |none=>rw[c]at h;cases h
 |some v=>rw[c]at h;exact Z.rows s v (SQ c) g h
theorem PR.up{R':Nat->Prop}{b d size e:Nat}{ta:OA}{tc:Nat}{f:OA}{l:Nat}{fr:List Int}{o:Nat}{m:List (Int×Value)}(Z:PR R b d size e ta tc f l fr o m)(h:∀i,R i->R' i):PR R' b d size e ta tc f l fr o m:=
 ⟨h _ Z.b,h _ Z.bt,λg c=>h _ (Z.ta g c),h _ Z.gs,h _ Z.bm,λp g c=>h _ (Z.fr p g c),λs v r g c=>h _ (Z.rows s v r g c)⟩
theorem Fr.gP(f:Fr (gP R w) w w'):Fr R w w':=Fr.mono f λi hi h=>h.elim id λh=>by omega
theorem zQk{n:Int}(h:¬(n<1\/400<n)):LM n=((n,Bf n.toNat),0)/\PS n (Bf n.toNat)/\(Bf n.toNat).length=n.toNat/\∀p:Nat,(p:Int)<n->(p:Int)∈Bf n.toNat:=by grind[LM,Bf,PS,dW,List.nodup_range]
theorem zLf{size:Int}:Sp PP 98 #[.int .i64 size] w λv w' =>
  ((size<1\/400<size)/\v=.tuple #[.pointer none,.int .i64 1]\/∃(N b c:Nat),size=(N:Int)/\1<=N/\N<=400/\v=.tuple #[.pointer (some ⟨b,0,none⟩),.int .i64 0]/\Ch (λi=>w.heap.size<=i/\i<w'.heap.size) w.heap.size w' b c N [])/\AC w w':=by
 refine eN ?_;refine AA (zLP (size:=size) (w:=w)) ?_;rintro v w1 ⟨⟨pv,rfl,t,z,rfl,O1⟩,e1⟩;refine Ao λb2 w2 n2 z2=>rS z2 [.int .i64 (LM size).1.1,.slice t (LM size).1.2.length z] (CM _ _ _ _) λE B3 f3 _=>?_;have s3:AC w1 E:=n2.st f3;clear z2 f3;by_cases K:size<1\/400<size
 ·have Q:(LM size).2=1:=by unfold LM;rw[if_pos K]
  rw[Q];refine iT (by first|omega|decide|(dsimp only<;>omega)) ?_;exact⟨.inl ⟨K,rfl⟩,stp⟩
 have S:=zQk K;obtain⟨Q,U,a0,l⟩:=S;rw[Q]at O1 B3 ⊢;refine iF (· rfl) (AA (sA (most:=size) (w:=E)) ?_);rintro v w4 ⟨⟨h,_⟩|⟨N,M,ta,tc,rfl,V,W,rfl,T⟩,e4⟩
 ·exact absurd h K
 refine iF (· rfl) ?_
 have fin:∀(u:World) (c F b d:Nat),AC w u->Ch (λi=>w.heap.size<=i) w.heap.size u b c N []->((((N:Int)<1\/400<(N:Int))/\Value.tuple #[.pointer (some ⟨b,0,none⟩),.int .i64 0]=.tuple #[.pointer none,.int .i64 1]\/∃(O b' X:Nat),(N:Int)=(O:Int)/\1<=O/\O<=400/\Value.tuple #[.pointer (some ⟨b,0,none⟩),.int .i64 0]=.tuple #[.pointer (some ⟨b',0,none⟩),.int .i64 0]/\Ch (λi=>w.heap.size<=i/\i<u.heap.size) w.heap.size u b' X O [])/\AC w u):=
  λu c F b d s P=>⟨.inr ⟨N,b,c,rfl,V,W,rfl,P.mono λi f o=>⟨o,f⟩⟩,s⟩
 have O4:=O1.up (w':=w4)
 have T0:GV N cW (Bf N) (List.replicate N Lc):=by
  refine⟨U,by simp,λk n=>Iff.intro (λh=>nomatch h) (λ⟨p,_,f,x,o,_⟩=>absurd (l p ?_) f),?_⟩
  ·have:=(Qy.1 o).1;simp at this;omega
  ·show 0+(Bf N).length=N;rw[dW];omega
 have M0:Kq (Bf N) (List.replicate N Lc) []:=⟨.nil,λx=>Iff.intro (λh=>nomatch h) (λ⟨p,f,o⟩=>absurd (l p (by have:=(Qy.1 o).1;simp at this;omega)) f)⟩;have C0:WE (Bf N) (List.replicate N Lc) (λ_=>[]):=λs=>⟨by simp,λn=>Iff.intro (λh=>nomatch h) (λ⟨p,_,f,x,o,_⟩=>absurd (l p (by have:=(Qy.1 o).1;simp at this;omega)) f)⟩
 have mk:∀(u:World) (c F b d:Nat),w.heap.size<=b->w.heap.size<=d->w.heap.size<=c->Le w4 u->Bk u b [.pointer (some ⟨M,0,none⟩),.int .i64 N,.slice t (Bf N).length z,.slice (some ⟨c,0,none⟩) N F,.map (some d)] 236->AD w.heap.size 341 u (.slice (some ⟨c,0,none⟩) N F) (List.replicate N Lc)->BN PP 3 u d ([]:List (Int×Value))->Ch (λi=>w.heap.size<=i) w.heap.size u b c N []:=by
  intro u c F b d f o h3 L CB OS MB;refine⟨M,ta,tc,cW,t,z,Bf N,F,List.replicate N Lc,d,[],λ_=>[],⟨⟨f,o,h3⟩,CB,?_,(O4.up (w':=u)).y,OS,MB,(λs v h=>nomatch h),λ_ _=>rfl,(λs v s' v' h=>nomatch h),(λ_ s v h=>nomatch h)⟩,T0,M0,C0,f,Qw (lz w E) T.1,λg A=>?_,h3,o,λhn g A=>?_,(λs v h=>nomatch h)⟩
  rotate_left
  ·obtain⟨_,Rw,Y,_⟩:=T;obtain⟨g',q1,q2,_⟩:=Y.row.lt (λe=>by have f:=Y.len;have o:=Y.bnd;rw[e]at f;simp at f;omega);rw[q1]at A;cases A;exact Qw (lz w E) q2
  ·have S:=O4.lt hn;obtain⟨g',q1,q2,_⟩:=S;have q3:Value.blk (.slice t (Bf N).length z)=some g':=q1;rw[q3]at A;cases A;exact q2
  have:=T.up (w':=u);obtain⟨g0,R,H,r⟩:=this;exact⟨Qw (lz w E) g0,R,⟨H.cell,H.row.mono (lz w E),H.len,H.tab,H.bnd,H.may,H.zero⟩,r⟩
 have Z:(Value.agg #[Value.int IntKind.i64 0,Value.int IntKind.i64 0,Value.int IntKind.i64 0,Value.int IntKind.i64 0]).cells.toList=enc Lc:=rfl;refine dT (λ_=>False) (oL [0,1,2] (.two 3 (oL [4,5,6,7,8] .nil) 4 (oL [3,5,6,7,8] .nil))) λu5 e5=>MW (ds:=[.int .i64 (N:Nat),.slice t (Bf N).length z]) (B:=B3) rfl rfl nf ?_;refine⟨?_,?_⟩
 ·refine IX Lc rfl rfl (by omega) λc u6 O6 s6 A=>⟨s6.e,?_⟩;refine TR (kt:=3) (κ:=Int) rfl λd u7 G M7=>⟨G.e,?_⟩;refine Aq (cs:=[.pointer (some ⟨M,0,none⟩),.int .i64 (N:Nat),.slice t (Bf N).length z,.slice (some ⟨c,0,none⟩) N N,.map (some d)]) rfl (BM λb I J B8=>⟨J.e,?_⟩);have C:w.heap.size<=u5.heap.size:=Le.size;refine fin I c N b d stp (mk I c N b d J.lo G.lo (by omega) inferInstance B8 (O6.up.mono C) M7.up)
 ·refine TR (kt:=3) (κ:=Int) rfl λd u7 G M7=>⟨G.e,?_⟩;refine IX Lc rfl rfl (by omega) λc u6 O6 s6 A=>⟨s6.e,?_⟩;refine Aq (cs:=[.pointer (some ⟨M,0,none⟩),.int .i64 (N:Nat),.slice t (Bf N).length z,.slice (some ⟨c,0,none⟩) N N,.map (some d)]) rfl (BM λb I J B8=>⟨J.e,?_⟩);have C:w.heap.size<=u7.heap.size:=Le.size;refine fin I c N b d stp (mk I c N b d J.lo G.lo (by omega) inferInstance B8 (O6.up.mono C) M7.up)
theorem jZ{κ:Type}[DecidableEq κ]{m:List (κ×Value)}(b:(m.map (·.1)).Nodup){k:κ}{v:Value}:(k,v)∈m↔An m k=some v:=⟨TX b,SQ⟩
theorem KL{κ:Type}[DecidableEq κ]{m:List (κ×Value)}(c:(m.map (·.1)).Nodup){k s:κ}{v b:Value}:(s,v)∈Co k b m↔(s=k/\v=b)\/(s≠k/\(s,v)∈m):=by grind[jZ,Yb,kA]
theorem XT{κ:Type}[DecidableEq κ]{m:List (κ×Value)}(b:(m.map (·.1)).Nodup){k s:κ}{v:Value}:(s,v)∈Gq k m↔s≠k/\(s,v)∈m:=by
 rw[jZ (fB k b),zOV k s m b,jZ b];by_cases e:s=k
 ·rw[if_pos e];simp[e]
 ·rw[if_neg e];simp[e]
theorem BN.frO{α:Type}[AL α]{kt:TypeId}{κ:Type}[DecidableEq κ][Eo PP kt κ]{C:Nat}{e:TypeId}{v:Value}{l:List α}{d:Nat}{m:List (κ×Value)}(h:BN PP kt w d m)(O:AD C e w v l)(f:Fr (AV B v) w w'):BN PP kt w' d m:=by
 refine h.fr f λhd=>?_;rcases O with⟨_,a,e⟩|p
 ·exact hd.2.2 a e
 ·have r:=p.2;rcases r with⟨e,_⟩|⟨g,cap,t,e,_,x,_⟩
  ·rw[e]at hd;cases hd.2.1
  ·have b:=hd.2.1;rw[e]at b;simp only[Value.blk]at b;cases b;obtain⟨⟨es,c,o,_⟩,_⟩:=h;rw[x]at o;cases o
theorem Em.chain{b gs size bt:Nat}{ta:OA}{tc:Nat}{ts:TS}{U:OA}{V:Nat}{fr:List Int}{sc:Nat}{st:List AN}{I:Nat}{m:List (Int×Value)}{ch:Int->List Int}{s n:Int}{G:Value}
  (h:Em B w b gs size bt ta tc ts U V fr sc st I m ch){J:World}(O:AD B 3 J G (ch s++[n]))(W:Fr (AV B ((An m s).getD (.slice none 0 0))) w J)
  (p:Value.blk G=Value.blk ((An m s).getD (.slice none 0 0))\/Value.blk G=some w.heap.size)(M:BN PP 3 u I (Co s G m))(f2:Fr (λi=>i=I) J u):
  Em B u b gs size bt ta tc ts U V fr sc st I (Co s G m) (λs'=>if s'=s then ch s'++[n] else ch s')/\BP B [3,Fp] w u/\∀R,PR R b gs size bt ta tc U V fr I m->Fr R w u/\∀R',(∀i,R i->R' i)->R' w.heap.size->PR R' b gs size bt ta tc U V fr I (Co s G m):=by
 have d:=h.look s;obtain⟨X,z⟩:=d;have y:=h.map.2;have F1:BP B [3,Fp] w J:=X.wrote W (Qe _) (by decide);have M1:BN PP 3 J I m:=h.map.frO X W;have F2:BP B [3,Fp] J u:=M1.wrote f2 h.lo.2.1 (by decide);have K:BP B [Fp] J u:=M1.wrote f2 h.lo.2.1 (by decide);have FF:=F1.trans F2
 have lt:∀l r,(l,r)∈m->∃g,Value.blk r=some g/\g<w.heap.size:=λl r A=>by
  have d:=h.rows l r A;obtain⟨L,c⟩:=d;have d:=L.lt c;obtain⟨g,Q,_,S⟩:=d;exact⟨g,Q,S⟩
 have nd:∀l r,(l,r)∈m->l≠s->∀g,Value.blk r=some g->¬AV B ((An m s).getD (.slice none 0 0)) g:=λl r A c g f hd=>by
  have d:=z g hd.2.1;obtain⟨E,t,v⟩:=d;exact h.apart l r s E A t c g f v
 have free:Bh 3 u (.slice U fr.length V) fr:=by
  refine(h.free.frN W λg c f hd=>?_).kept K (by decide);have d:=z g hd.2.1;obtain⟨E,t,v⟩:=d;exact h.apart2 c s E t g v f
 refine⟨⟨h.lo,h.cell.kept FF (by decide),h.tab.kept FF (by decide) (by decide),free,h.sts.kept FF (by decide),M,λl r A=>?_,λl Y=>?_,λl r s3 v3 S h3 c g f x=>?_,λc l r S g f=>?_⟩,FF,λR Z=>⟨(W.mono λi _ hi=>Z.look hi.2.1).trans (f2.mono λi _ hi=>hi ▸ Z.bm),λR' H hn=>⟨H _ Z.b,H _ Z.bt,λg f=>H _ (Z.ta g f),H _ Z.gs,H _ Z.bm,λc g f=>H _ (Z.fr c g f),λl r S g f=>?_⟩⟩⟩
 rotate_left 4
 ·have d:=(KL y).1 S;rcases d with⟨rfl,rfl⟩|⟨_,o⟩
  ·rcases p with p|p
   ·rw[p]at f;exact H _ (Z.look f)
   ·rw[p]at f;cases f;exact hn
  ·exact H _ (Z.rows l r o g f)
 ·have d:=(KL y).1 A;rcases d with⟨rfl,rfl⟩|⟨c,o⟩
  ·rw[if_pos rfl];exact⟨O.kept K (by decide),by simp⟩
  ·rw[if_neg c];have d:=h.rows l r o;obtain⟨L,C⟩:=d;exact⟨(L.fr W λg _ f=>nd l r o c g f).kept K (by decide),C⟩
 ·have a1:l≠s:=by rintro rfl;exact Y ((FS l G m l).2 (.inl rfl))
  rw[if_neg a1];exact h.empt l λhm=>Y ((FS s G m l).2 (.inr hm))
 ·have d:=(KL y).1 S;rcases d with⟨rfl,rfl⟩|⟨C,o⟩
  ·have d:=(KL y).1 h3;rcases d with⟨e,_⟩|⟨a0,F⟩
   ·exact c e.symm
   ·rcases p with p|p
    ·rw[p]at f;have d:=z g f;obtain⟨E,t,v⟩:=d;exact h.apart _ E s3 v3 t F c g v x
    ·rw[p]at f;cases f;have d:=lt s3 v3 F;obtain⟨g',Q,h4⟩:=d;rw[Q]at x;cases x;omega
  ·have d:=(KL y).1 h3;rcases d with⟨rfl,rfl⟩|⟨a0,F⟩
   ·rcases p with p|p
    ·rw[p]at x;have d:=z g x;obtain⟨E,t,v⟩:=d;exact h.apart l r _ E o t c g f v
    ·rw[p]at x;cases x;have d:=lt l r o;obtain⟨g',Q,h4⟩:=d;rw[Q]at f;cases f;omega
   ·exact h.apart l r s3 v3 o F c g f x
 ·have d:=(KL y).1 S;rcases d with⟨rfl,rfl⟩|⟨C,o⟩
  ·rcases p with p|p
   ·rw[p]at f;have d:=z g f;obtain⟨E,t,v⟩:=d;exact h.apart2 c _ E t g v
   ·rw[p]at f;cases f;intro hf;have d:=h.free.blkN c;obtain⟨g',Q,h4⟩:=d;rw[Q]at hf;cases hf;omega
  ·exact h.apart2 c l r o g f
theorem zLg{b o size:Nat}{L:List AN}{x:AN}(S:Ch R B w b o size L):
  Sp PP 251 #[.pointer (some ⟨b,0,none⟩),agg x] w λv w'=>v=.int .i64 (ER size L x).2/\Ch (gR R w w') B w' b o size (ER size L x).1/\WF o B w w'/\Fr R w w':=by
 have SS:=S;have BS:=S.lt;obtain⟨d3,g3,g4,g6,f8,g7,g8,_⟩:=BS;obtain⟨bt,ta,tc,ts,fa,fc,fr,sc,st,U,m,ch,H,T,M,C,Z⟩:=S;have g9:=T.len M;have a3:=T.cnt;refine eN ?_;refine BM λbx w1 n1 B1=>?_;have d4:=n1.lo (u:=w);refine EE ?_;have H1:=H.up (w':=w1);refine dQ 12 λw2 e2=>tX H1.cell rfl nf (tG B1 x.key nf ?_);have H2:=H1.up (w':=w2);refine AA (WJ (k:=x.key) H2.tab) ?_;rintro v w3 ⟨rfl,e3⟩;refine⟨e3.e,?_⟩;have f:=T.get M x.key;rcases f with⟨p,y,hm,hp,hy,h0,O⟩|⟨hm,O⟩
 ·-- it is there
  have r:Ho ts x.key=((p:Int),true):=by unfold Ho;rw[hm]
  rw[r];refine rG B1 x (AA (zIz (x:=x)) ?_);rintro v w4 ⟨rfl,e4⟩
  have E:ER size L x=(L,if ED x then 150 else 1):=by
   unfold ER;split
   ·rw[O]
   ·rfl
  rw[E];exact⟨rfl,SS.up.gr,Cl.ext Le.e,Fr.fr Le.e⟩
 have r:Ho ts x.key=(0,false):=by unfold Ho;rw[hm]
 rw[r];refine rG B1 x ?_;have MY:=t1 (x:=x) (w:=w3);by_cases l:ED x
 case neg =>
  rw[if_neg l]at MY;refine AA MY ?_;rintro v w4 ⟨rfl,e4⟩;have E:ER size L x=(L,1):=by unfold ER;rw[if_neg l]
  rw[E];refine iT (by first|omega|decide|(dsimp only<;>omega)) ?_;exact⟨rfl,SS.up.gr,Cl.ext Le.e,Fr.fr Le.e⟩
 rw[if_pos l]at MY;refine AA MY ?_;rintro v w4 ⟨rfl,e4⟩;refine iF (· rfl) ?_;have H4:=H.up (w':=w4);refine Cn (ds:=[.int .i64 (size:Nat),.slice fa fr.length fc]) (B:=H4.cell) rfl rfl ?_;have g0:fr.length<=size:=by omega
 refine AA (zKS (sz:=(size:Int)) H4.free.sl (by omega)) ?_;rintro v w5 ⟨⟨pv,rfl,a5,c5,rfl,O5⟩,e5⟩;refine Ao λb6 w6 n6 z6=>rS z6 [.int .i64 (Ed ((size:Int),fr)).2.1.1,.slice a5 (Ed ((size:Int),fr)).2.1.2.length c5] (CM _ _ _ _) λw7 B7 f7 _=>?_;have s7:AC w5 w7:=n6.st f7;clear z6 f7;by_cases a1:fr=[]
 ·-- it is full
  have ht:Ed ((size:Int),fr)=(0,zP,140):=by unfold Ed;rw[if_pos T.ok,a1];rfl
  rw[ht]
  have E:ER size L x=(L,140):=by
   unfold ER;rw[if_pos l,O];simp only;rw[if_pos (by rw[a1]at a3;simp at a3;omega)]
  rw[E];refine iT (by first|omega|decide|(dsimp only<;>omega)) ?_;exact⟨rfl,SS.up.gr,Cl.ext Le.e,Fr.fr Le.e⟩
 have f:∃c n,fr=c++[n]:=⟨fr.dropLast,fr.getLast a1,(Xc a1).symm⟩;obtain⟨c,n,c1⟩:=f;subst c1;have hn:=T.ok.2.2.1 n (by simp);have f:=QU hn.1;obtain⟨p,rfl⟩:=f
 have ht:Ed ((size:Int),c++[(p:Int)])=((p:Int),((size:Int),c),0):=by
  unfold Ed;rw[if_pos T.ok];rw[List.getLast?_concat];show((p:Int),((size:Int),(c++[(p:Int)]).dropLast),(0:Int))=_;rw[List.dropLast_concat]
 rw[ht]at O5 B7 ⊢;refine iF (· rfl) ?_;have c2:=T.put M C l.1 hm;obtain⟨d5,T',M',C'⟩:=c2;have h6:(c++[(p:Int)]).length=c.length+1:=by simp
 have E:ER size L x=(Hf x L,0):=by
  unfold ER;rw[if_pos l,O];simp only;rw[if_neg (by omega)]
 rw[E];have H7:=H.up (w':=w7)
 have h7:o<w.heap.size:=by
  have:=H.sts.lt (by intro h;have:=T.stl;rw[h]at this;simp at this;omega);obtain⟨g,h1,_,h2⟩:=this;have h8:o=g:=QL h1;omega
 have h9:=n6.lo (u:=w);refine dD (λi=>i≠b/\i≠bx) (Hq 9 0) λw8 e8=>tX H7.cell rfl (λh=>h.1 rfl) (tG B1 x.key (λh=>h.2 rfl) ?_);have H8:=H7.up (w':=w8);have PT:=Rh (k:=x.key) (n:=(p:Int)) H8.tab;rw[d5]at PT;refine AA PT ?_;rintro v w9 ⟨rfl,T9,c3⟩;have f9:=H8.tab.wrote c3;have G9:Fr R w w9:=(Fr.fr Le.e:Fr R w w8).trans (Z.tab c3);have B8:=B1.mv (w:=w8);refine⟨Fr.mono f9 λi _ hi=>⟨by rintro rfl;exact absurd (hi.cells H8.cell.h) (by decide),by rintro rfl;exact absurd (hi.cells B8.h) (by decide)⟩,?_⟩;refine iF (· rfl) ?_;have F9:WF o B w w9:=(Cl.ext Le.e).trans (f9.x (Qe _) (by decide));have B9:=B8.kept f9 (by decide);have P9:=(B7.mv (w:=w8)).kept f9 (by decide);have C9:=H8.cell.kept f9 (by decide);have S9:=H8.sts.kept f9 (by decide);have R9:Bh 3 w9 (.slice a5 c.length c5) c:=(O5.y.up (w':=w8)).kept f9 (by decide);refine dT (λi=>i=b\/AV B (.slice (some ⟨o,0,none⟩) size sc) i) (oL [0,1,2,3,5,6,7] (.lone 4 (oL [8,9,10,11,12] .nil))) λt c4=>?_;have d6:¬(b6=b\/AV B (.slice (some ⟨o,0,none⟩) size sc) b6):=λh=>h.elim (λh=>by omega) (λh=>by have:=QL h.2.1;simp only at this;omega);have c6:¬(bx=b\/AV B (.slice (some ⟨o,0,none⟩) size sc) bx):=λh=>h.elim (λh=>by omega) (λh=>by have:=QL h.2.1;simp only at this;omega);refine MW (ds:=[.int .i64 (size:Nat),.slice a5 c.length c5]) (B:=P9) rfl rfl d6 (tG B9 x c6 (rX C9 rfl ⟨Fr.refl _ _,?_⟩));have c7:=C9.mv (w:=t);refine rS c7 [.int .i64 (size:Nat),.slice a5 c.length c5] (CM _ _ _ _) λa7 c8 a8 _=>⟨a8.mono λi _ hi=>.inl hi,?_⟩;have F:BP B [236] t a7:=c7.wrote a8 d3 (by decide);have Q:=(S9.up (w':=t)).kept F (by decide);have c9:p<st.length:=by rw[T.stl];omega
 refine ET rfl Q (x:=st[p]) (by simp[c9]) λg r _ A=>CW rfl x Q r c9 rfl λG d7 I _=>⟨I.mono λi _ hi=>.inr hi,?_⟩;have i0:g=o:=(QL r).symm;have d8:Fr (λi=>i=o) a7 G:=Fr.mono I λi _ hi=>(QL hi.2.1).symm;have d9:WF o B w G:=(((F9.trans (Cl.ext c4.e)).trans (F.x (Qe _) (by decide))).trans (Q.wroteX I λg r=>(QL r).symm));have a4:Fr R w G:=((G9.trans (Fr.fr c4.e)).trans (a8.mono λi _ hi=>hi ▸ Z.b)).trans (d8.mono λi _ hi=>hi ▸ Z.gs);have e0:¬AV B (.slice (some ⟨o,0,none⟩) size sc) b:=c8.notOwn Q
 have z:Em B G b o size bt ta tc (DR size ts x.key p).1 a5 c5 c sc (st.set p x) U m ch:=by
  have e1:=(T9.up (w':=t)).kept F (by decide) (by decide);have e6:FM B G bt ta tc size (DR size ts x.key p).1:=e1.kept (Q.wrote I (Qe _) (show 341∈[341] by decide)) (by decide) (by decide);have a9:BP B [341] a7 G:=Q.wrote I (Qe _) (by decide);refine⟨H.lo,c8.fr I e0,e6,((R9.up (w':=t)).kept F (by decide)).kept a9 (by decide),d7,(((H8.map.kept f9 (by decide)).up (w':=t)).kept F (by decide)).kept a9 (by decide),λs v V=>?_,H.empt,H.apart,λb0 s v V g r hf=>?_⟩
  ·have:=H8.rows s v V;exact⟨(((this.1.kept f9 (by decide)).up (w':=t)).kept F (by decide)).kept a9 (by decide),this.2⟩
  ·have f:=O5.lt b0;obtain⟨g5,h1,h2,_⟩:=f;rw[h1]at hf;cases hf;have f:=H.rows s v V;obtain⟨b1,W⟩:=f;have f:=b1.lt W;obtain⟨g',h3,_,h4⟩:=f;rw[h3]at r;cases r;have:=lz w w4;omega
 have b2:Bk G bx (enc x) 341:=((B9.mv (w:=t)).kept F (by decide)).fr I (λh=>c6 (.inr h));have e7:U≠b:=by intro e;exact z.map.ne z.cell e.symm
 have d0:U≠bx:=by intro e;exact z.map.ne b2 e.symm
 have e9:=z.look x.key.slot;obtain⟨X,f0⟩:=e9
 have a6:∀i,w.heap.size<=i\/i=b->¬AV B ((An m x.key.slot).getD (.slice none 0 0)) i:=λi hi hd=>by
  have f:=f0 i hd.2.1;obtain⟨v0,f3,d1⟩:=f;have f:=H.rows _ v0 f3;obtain⟨b1,W⟩:=f;have f:=b1.lt W;obtain⟨g',h3,_,h4⟩:=f;rw[h3]at d1;cases d1;rcases hi with h|rfl
  ·omega
  ·rcases X with⟨_,a,e⟩|hO
   ·exact hd.2.2 a e
   ·have f:=hO.2;rcases f with⟨e,_⟩|⟨g2,cap,i1,e,_,f4,_⟩
    ·rw[e]at hd;cases hd.2.1
    ·have h5:=hd.2.1;rw[e]at h5;simp only[Value.blk]at h5;cases h5;have:=z.cell.h;rw[f4]at this;cases this
 have g1:(ch x.key.slot).length<=1000:=by
  have h1:=(T.of M C x.key.slot).length_eq;have h2:(OE L x.key.slot).length<=L.length:=Qv _ _;rw[Qr]at h1;omega
 refine dT (λi=>i=U\/AV B ((An m x.key.slot).getD (.slice none 0 0)) i) (oL [0,1,2,3,4,5,6,7,8,9,10,11,12,13,15] (.duo 14 (oL [16,17,18] .nil) 16 (.lone 14 (.one 17 (.one 18 .nil))))) λa2 d2=>?_;have nb:¬(b=U\/AV B ((An m x.key.slot).getD (.slice none 0 0)) b):=λh=>h.elim (λh=>e7 h.symm) (a6 b (.inr rfl));have nx:¬(bx=U\/AV B ((An m x.key.slot).getD (.slice none 0 0)) bx):=λh=>h.elim (λh=>d0 h.symm) (a6 bx (.inl d4));refine tX z.cell rfl nb (tX b2 rfl nx (tX z.cell rfl nb (tX b2 rfl nx ?_)));have J:=z.up (w':=a2)
 have fin:∀(u0 u1 u2:World) (v':Value),Le a2 u0->AD B 3 u1 v' (ch x.key.slot++[(p:Int)])->Fr (AV B ((An m x.key.slot).getD (.slice none 0 0))) u0 u1->(Value.blk v'=Value.blk ((An m x.key.slot).getD (.slice none 0 0))\/Value.blk v'=some u0.heap.size) ->
   BN PP 3 u2 U (Co x.key.slot v' m)->Fr (λi=>i=U) u1 u2->Ch (gR R w u2) B u2 b o size (Hf x L)/\WF o B w u2/\Fr R w u2:=λu0 u1 u2 v' L0 O1 f1 V M2 f2=>by
  have hc:=(J.up (w':=u0)).chain O1 f1 V M2 f2
  have Z5:PR (gP R w) b o size bt ta tc a5 c5 c U m:=⟨.inl Z.b,.inl Z.bt,λg r=>.inl (Z.ta g r),.inl Z.gs,.inl Z.bm,λb0 g r=>.inr (by
   have f:=O5.lt b0;obtain⟨g5,h1,h2,_⟩:=f;rw[h1]at r;cases r;have:=lz w w4;omega),λs v V g r=>.inl (Z.rows s v V g r)⟩
  have hz:=hc.2.2 _ Z5;have f5:w.heap.size<=u0.heap.size:=by have h1:=a4.size;have h2:=d2.e.size;have h3:=L0.e.size;omega
  exact⟨(show Ch (gP R w) B u2 b o size (Hf x L) from⟨bt,ta,tc,_,a5,c5,c,sc,_,U,_,_,hc.1,T',M',C',hz.2 _ (λ_ h=>h) (.inr f5)⟩).end,(d9.trans (Cl.ext Le.e)).trans ((Cl.ext L0.e).trans (hc.2.1.x (Qe _) (by decide))),Fr.gP (((a4.mono λi _ hi=>.inl hi).trans (Fr.fr d2.e)).trans ((Fr.fr L0.e).trans hz.1))⟩
 refine⟨?_,?_⟩
 ·refine Hn J.map x.key.slot rfl ⟨Fr.refl _ _,?_⟩;refine bS (p:Int) λf6 d b3 _ b4=>⟨Fr.fr b3.e,?_⟩;have b5:B<=d.heap.size:=by have:=lz a2 d;have:=J.cell.lt;omega
  refine Fy ⟨rfl,rfl⟩ (X.up (w':=d)) b4 (by simp) b5 (by simp;omega) λv' Y b7 K V=>⟨K.mono λi _ hi=>.inr hi,?_⟩;have b8:BN PP 3 Y U m:=(J.map.up (w':=d)).frO (X.up (w':=d)) K;refine RG b8 x.key.slot rfl λb9 c0 a0 _=>⟨a0.mono λi _ hi=>.inl hi,?_⟩;exact⟨rfl,fin d Y b9 v' inferInstance b7 K V c0 a0⟩
 ·refine bS (p:Int) λf6 d b3 _ b4=>⟨Fr.fr b3.e,?_⟩;refine Hn (J.map.up (w':=d)) x.key.slot rfl ⟨Fr.refl _ _,?_⟩;have b5:B<=d.heap.size:=by have:=lz a2 d;have:=J.cell.lt;omega
  refine Fy ⟨rfl,rfl⟩ (X.up (w':=d)) b4 (by simp) b5 (by simp;omega) λv' Y b7 K V=>⟨K.mono λi _ hi=>.inr hi,?_⟩;have b8:BN PP 3 Y U m:=(J.map.up (w':=d)).frO (X.up (w':=d)) K;refine RG b8 x.key.slot rfl λb9 c0 a0 _=>⟨a0.mono λi _ hi=>.inl hi,?_⟩;exact⟨rfl,fin d Y b9 v' inferInstance b7 K V c0 a0⟩
end Go.W
namespace Go.Proofs
open Go.Shelf Tryz
def Tryz.sortS_ren:Go.Shelf.Ren:=⟨fun|6=>245|15=>201|14=>328|28=>284|29=>265|20=>372|21=>373|22=>374|23=>375|24=>376|25=>377|26=>378|27=>379|46=>394|47=>352|48=>353|49=>395|50=>396|57=>416|n=>n,fun|22=>233|24=>341|25=>351|3=>3|39=>186|0=>0|53=>277|55=>281|4=>4|46=>375|45=>374|50=>70|5=>5|9=>9|66=>436|70=>440|76=>484|77=>485|n=>n,fun|n=>n⟩
theorem Tryz.sortS:Go.Proofs.SlLaysF0.n6 prog Tryz.sortS_ren:={
 mixed:=by kernel_rfl
 f6:=⟨f245.name,by decide,W.ff func245⟩
 f14:=⟨f328.name,by decide,W.ff func328⟩
 f15:=W.ff func201
 f20:=⟨f372.name,by decide,W.ff func372⟩
 f21:=⟨f373.name,by decide,W.ff func373⟩
 f22:=⟨f374.name,by decide,W.ff func374⟩
 f23:=⟨f375.name,by decide,W.ff func375⟩
 f24:=⟨f376.name,by decide,W.ff func376⟩
 f25:=⟨f377.name,by decide,W.ff func377⟩
 f26:=⟨f378.name,by decide,W.ff func378⟩
 f27:=⟨f379.name,by decide,W.ff func379⟩
 f28:=W.ff func284
 f29:=W.ff func265
 f46:=⟨f394.name,by decide,W.ff func394⟩
 f47:=W.ff func352
 f48:=W.ff func353
 f49:=⟨f395.name,by decide,W.ff func395⟩
 f50:=⟨f396.name,by decide,W.ff func396⟩
 f57:=⟨f416.name,by decide,W.ff func416⟩
 t0:=underlying0
 a0:=isAgg0
 z0:=sizeOf0
 v0:=zeroValue0
 t3:=underlying3
 a3:=isAgg3
 z3:=sizeOf3
 v3:=zeroValue3
 t4:=underlying4
 a4:=isAgg4
 z4:=sizeOf4
 v4:=zeroValue4
 t5:=underlying5
 a5:=isAgg5
 z5:=sizeOf5
 v5:=zeroValue5
 t9:=underlying9
 a9:=isAgg9
 z9:=sizeOf9
 v9:=zeroValue9
 t22:=underlying233
 a22:=isAgg233
 z22:=sizeOf233
 v22:=zeroValue233
 t25:=underlying351
 a25:=isAgg351
 z25:=sizeOf351
 v25:=zeroValue351
 t39:=underlying186
 a39:=isAgg186
 z39:=sizeOf186
 v39:=zeroValue186
 t45:=underlying374
 a45:=isAgg374
 z45:=sizeOf374
 v45:=zeroValue374
 t46:=underlying375
 a46:=isAgg375
 z46:=sizeOf375
 v46:=zeroValue375
 t50:=underlying70
 a50:=isAgg70
 z50:=sizeOf70
 v50:=zeroValue70
 t53:=underlying277
 a53:=isAgg277
 z53:=sizeOf277
 v53:=zeroValue277
 t55:=underlying281
 a55:=isAgg281
 z55:=sizeOf281
 v55:=zeroValue281
 t66:=underlying436
 a66:=isAgg436
 z66:=sizeOf436
 v66:=zeroValue436
 t70:=underlying440
 a70:=isAgg440
 z70:=sizeOf440
 v70:=zeroValue440
 t76:=underlying484
 a76:=isAgg484
 z76:=sizeOf484
 v76:=zeroValue484
 t77:=underlying485
 a77:=isAgg485
 z77:=sizeOf485
 v77:=zeroValue485 }
end Go.Proofs
