/-
  Proved here: parts of this claim.
  Conditions: told at each.
-/
import Derived.Shelf.SlSortCmp.NoneTotal
import Derived.Shelf.SlLaysF0
import Derived.Test.YtneehpnmjhjocaaGreatProg
import Derived.DeepKeys3
import Derived.Shelf.SortG.Plain
import Derived.Shelf.SortG.SortNone
import Derived.Shelf.Strings.BuilderK
import Derived.Test.YtneehpnmjhjocaaGreatK1
set_option maxHeartbeats 1000000
set_option linter.unusedVariables false
set_option linter.unusedSimpArgs false
namespace Go.W
open Go Go.Proofs
open Enc (enc)
set_option maxRecDepth 10000
variable {B N i j k m n:Nat} {D R:Nat -> Prop} {P:Program} {a:Option Addr} {s:List UInt8} {u u' w':World}
theorem zKe{S a p:Nat}(b:a<S)(c:p<S):((p:Int) - a+S) % S=((distN S a p:Nat):Int):=by
 unfold distN;split
 ·rename_i h;rw [Int.add_emod_right,Yg (by omega) (by omega)];omega
 ·rw [Yg (by omega) (by omega)];omega
theorem zPM{b c most:Nat}{s:TS}{k:KeyD}{w:World}(T:TabS B w b a c most s):
  Sp PP 205 #[.pointer (some ⟨b,0,none⟩),agg k] w λv w'=>v=.bool (dropTS s k).2/\TabS B w' b a c most (dropTS s k).1/\Fr (tabD B b a c most) w w':=by
 have TT:=T;obtain⟨hB,R,T,hM,hu⟩:=T;refine eN ?_;refine rbx λbk w1 n1 B1=>rpnil (rldG (B:=B1) rfl rfl ?_);refine rcall may_sp ?_;rintro v w2 ⟨⟨rfl,hk⟩|⟨rfl,hk⟩,e2⟩
 rotate_left
 ·have hg:=zKl T hk;rw [hM] at hg;have hd:dropTS s k=(s,false):=by unfold dropTS;rw [hg]
  rw [hd];exact⟨rfl,TT.up,Fr.fr Le.e⟩
 refine rldG (B:=B1) rfl rfl ?_;refine rcall (zF2 (T.up (w':=w2)) hk) ?_;rintro v w3 ⟨⟨g0,rfl,hF⟩,e3⟩;have hi:=hF.lt;have f:=T.len;have W:=T.bnd;have H:=zDr T.tab hF;rw [zA8 hi] at H;have C:=T.cell.mv (w:=w3);have O:=T.row.up (w':=w3);refine rX C rfl (rix O.sl (x:=R[g0]) (by simp) λb4 o4 A4=>?_);by_cases l:R[g0].used=true
 rotate_left
 ·have l:R[g0].used=false:=by simpa using l
  rw [l,if_neg (by simp),hM] at H;have hd:dropTS s k=(s,false):=by unfold dropTS;rw [H]
  rw [hd];refine rload1 (v:=.bool false) (A4.cell 4 (by simp [enc,l])) ?_;exact⟨rfl,TT.up,Fr.fr Le.e⟩
 have z:(rowF R g0).used=true:=by rw [zA8 hi];exact l
 have a4:(rowF R g0).key=k:=by obtain⟨_,_,_,_,h⟩:=hF;exact h z
 rw [l,if_pos rfl,hM] at H;have hd:dropTS s k=(⟨λk'=>if k'=k then none else s.M k',s.u - 1⟩,true):=by unfold dropTS;rw [H]
 rw [hd]
 have c8:0<usedN R:=by
  unfold usedN;exact List.countP_pos_iff.2 ⟨_,Qa hi,l⟩
 refine rload1 (v:=.bool true) (A4.cell 4 (by simp [enc,l])) (rX C rfl (rarE (y:=((usedN R - 1:Nat):Int)) (by omega) (by omega) (rS C [.int .i64 ((usedN R - 1:Nat):Int)] (by simp;rfl) λu1 C1 f1 _=>?_)));have O1:=O.frc f1 C;have D1:Fr (tabD B b a c most) w u1:=(Fr.fr Le.e:Fr (tabD B b a c most) w w3).trans (f1.mono λj _ Y=>.inl Y);clear C O;refine rX C1 rfl (rbuild (cs:=enc zPl) rfl (rixO rfl O1 (x:=R[g0]) (by simp) λgg b3 _ A=>rstO' rfl zPl O1 b3 hi rfl λu2 O2 f2 _=>?_));have C2:=C1.fro O1 f2;have D2:Fr (tabD B b a c most) w u2:=D1.trans (f2.mono λj _ Y=>.inr Y);clear C1 O1;have G:=GapL.start T.tab hi z;rw [a4,hM] at G;have b8:=zLJ (R:=R) hi (by omega) z;obtain⟨s0,c9,d0,I,d1,Z⟩:=b8;have a5:I≠g0:=by rintro rfl;rw [z] at Z;cases Z
 have a6:(rowF (R.set g0 zPl) I).used=false:=by rw [zA3 hi,zAb _ _ a5];exact Z
 refine rX C2 rfl (rcall (zEd (n:=2*most) (i:=g0) C2 (by omega) (by omega)) ?_);rintro v u3 ⟨rfl,b9⟩;have c0:=zIb (n:=R.length) hi
 have c1:∀x∈R.set g0 zPl,x.used=true->mayK x.key:=by
  intro x hx F;have J:=zAG hx;rcases J with h|rfl
  ·exact T.may x h F
  ·cases F
 have c2:∀x∈R.set g0 zPl,x.used=false->x=zPl:=by
  intro x hx F;have J:=zAG hx;rcases J with h|rfl
  ·exact T.zero x h F
  ·rfl
 rw [<-f]
 refine loop2 TBok 9 [8] 5 7 (λv5 v7 u=>∃(g t i δ:Nat) (R':List PlD),v5=.int .i64 g/\v7=.int .i64 i/\GapL R' R.length (λk'=>if k'=k then none else s.M k') (usedN R - 1) g t/\On R.length g t i/\t<R.length/\On R.length i δ I/\t+δ<R.length/\(rowF R' I).used=false /\
   Bk u b [.slice a (2*most) c,.int .i64 most,.int .i64 ((usedN R - 1:Nat):Int)] 259/\Own B 360 u (.slice a (2*most) c) R'/\(∀x∈R',x.used=true->mayK x.key)/\(∀x∈R',x.used=false->x=zPl)/\Fr (tabD B b a c most) w u)
  (λ_ v7 _=>distN R.length (Go.RowKit.intOf v7).toNat I) rfl
  ⟨g0,1,aftN R.length g0,s0 - 1,_,rfl,rfl,G,c0,by omega,by unfold On at *;omega,by omega,a6,C2.mv,O2.up,c1,c2,D2.trans (Fr.fr b9.e)⟩ ?_
 rintro _ _ gf u ⟨g,t,i,δ,R',rfl,rfl,G',d,ht,a7,d2,E,C,O,o,q,D⟩;clear C2 O2;have a0:=G'.len;have K:i<R'.length:=by rw [a0];exact d.1
 have L:rowF R' i=R'[i]:=zA8 K;refine rX C rfl (rix O.sl (x:=R'[i]) (by simp) λb5 o5 A5=>?_);by_cases p:R'[i].used=true
 rotate_left
 ·have p:R'[i].used=false:=by simpa using p
  refine rload1 (v:=.bool false) (A5.cell 4 (by simp [enc,p])) ?_;have a1:=G'.done d ht (by rw [L];exact p);obtain⟨q1,q2,q3⟩:=a1;refine⟨rfl,⟨hB,R',⟨by rw [q3];exact C,O,by rw [a0];exact f,q1,⟨W.1,W.2.1,by omega⟩,o,q⟩,q2,by rw [q3,hu]⟩,D⟩
 refine rload1 (v:=.bool true) (A5.cell 4 (by simp [enc,p])) ?_;have Q:(rowF R' i).used=true:=by rw [L];exact p
 have c3:i≠I:=by rintro rfl;rw [Q] at E;cases E
 have d3:1<=δ:=by unfold On at a7;omega
 refine rX C rfl (rix O.sl (x:=R'[i]) (by simp) λb6 o6 A6=>rloadA (cs:=enc R'[i].key) (A6.sub 0 3) rfl ?_);have X:=zMG (k:=R'[i].key) C (by omega) (o _ (Qa K) p);rw [<-f] at X;refine rcall X ?_;rintro v u4 ⟨rfl,e4⟩;have hh:=zKn (S:=R.length) (by omega) R'[i].key;have a8:=G'.gap.lt;have d4:=zKe hh d.1;have d5:=zKe a8 d.1;have d6:distN R.length g i=t:=zC5 ht d;have V:=zKx hh d.1;have C4:=C.mv (w:=u4);have O4:=O.up (w':=u4);have ha:=zIb (n:=R.length) d.1;have r:On R.length (aftN R.length i) (δ - 1) I:=by unfold On at *;omega
 have U:distN R.length (aftN R.length i) I<distN R.length i I:=by
  rw [zC5 (by omega) a7,zC5 (by omega) r];omega
 refine dQ 15 λu5 e5=>rA (rA (rrem (by omega) (by omega) ?_));refine rA (rA (rrem (by omega) (by omega) ?_));refine ite (λhlt=>?_) (λd7=>?_)
 ·have a9:distN R.length (homeN R.length R'[i].key) i<t:=by omega
  have X:=zEd (n:=2*most) (i:=i) (C4.mv (w:=u5)) (by omega) (by omega);rw [<-f] at X;refine rcall X ?_;rintro v u6 ⟨rfl,e6⟩;refine⟨⟨g,t+1,aftN R.length i,δ - 1,R',rfl,rfl,G'.keep d ht Q V.1 (by rw [L];exact V.2) a9,by unfold On at *;omega,by omega,r,by omega,E,C4.mv,O4.up,o,q,D.trans (Fr.fr Le.e)⟩,U⟩
 ·have b0:t<=distN R.length (homeN R.length R'[i].key) i:=by omega
  have b1:g<R'.length:=by rw [a0];exact a8
  have c4:g≠i:=by have:=G'.gap.pos;unfold On at d;omega
  have Gm:=G'.move d ht Q V.1 (by rw [L];exact V.2) b0;rw [L] at Gm;have c5:I≠g:=by unfold On at *;have:=G'.gap.pos;omega
  have C5:=C4.mv (w:=u5);have O5:=O4.up (w':=u5);refine dT (ownD B (.slice a (2*most) c)) (oL [0,1,2,3,4,5,6,7,8,9,10,11,12,13,14,15,17] (.lone 16 (oL [18,19,20,21] .nil))) λu6 e6=>tX C5 rfl (C5.notOwn O5) (tX C5 rfl (C5.notOwn O5) (tX C5 rfl (C5.notOwn O5) (tix (O5.sl.up (w':=u6)) (x:=R'[i]) (by simp) λb7 o7 A7 _=>tbuild (cs:=enc zPl) rfl (rloadA A7 rfl ⟨Fr.refl _ _,?_⟩))));refine tixO rfl (O5.up (w':=u6)) (x:=R'[g]) (by simp) λg1 c6 _ A=>rstO' rfl R'[i] (O5.up (w':=u6)) c6 b1 rfl λu7 O7 f7 _=>⟨f7,?_⟩;refine tixO rfl O7 (x:=R'[i]) (by rw [List.getElem?_set_ne c4];simp) λg2 c7 _ A=>rstO' rfl zPl O7 c7 (by rw [Jc];exact K) rfl λu8 O8 f8 _=>⟨f8,?_⟩;have C7:=(C5.mv (w:=u6)).fro (O5.up (w':=u6)) f7;have C8:=C7.fro O7 f8;have X:=zEd (n:=2*most) (i:=i) C8 (by omega) (by omega);rw [<-f] at X;refine rcall X ?_;rintro v u9 ⟨rfl,e9⟩;have a2:g<R'.length:=b1;have a3:i<(R'.set g R'[i]).length:=by rw [Jc];exact K
  have b2:(rowF ((R'.set g R'[i]).set i zPl) I).used=false:=by
   rw [zA3 a3,zA3 a2,zAb _ _ (Jq c3),zAb _ _ c5];exact E
  refine⟨⟨i,1,aftN R.length i,δ - 1,_,rfl,rfl,Gm,ha,by omega,r,by omega,b2,C8.mv,O8.up,λx hx F=>?_,λx hx F=>?_,((D.trans (fE u u6)).trans (f7.mono λj _ Y=>.inr Y)).trans ((f8.mono λj _ Y=>.inr Y).trans (Fr.fr e9.e))⟩,U⟩
  ·have J:=zAG hx;rcases J with h|rfl
   ·have J:=zAG h;rcases J with h|rfl
    ·exact o x h F
    ·exact o _ (Qa K) F
   ·cases F
  ·have J:=zAG hx;rcases J with h|rfl
   ·have J:=zAG h;rcases J with h|rfl
    ·exact q x h F
    ·rw [p] at F;cases F
   ·rfl
open Go
def lessK (a b:KeyD):Prop:=a.slot<b.slot\/a.slot=b.slot/\(a.dir<b.dir\/a.dir=b.dir/\a.v<b.v)
instance (a b:KeyD):Decidable (lessK a b):=by unfold lessK;exact inferInstance
abbrev RisK (l:List KeyD):Prop:=l.Pairwise lessK
theorem zF3{a b:KeyD}(c:a.slot=b.slot)(d:a.dir=b.dir)(e:a.v=b.v):a=b:=by cases a;cases b;simp_all
theorem zAS{a b:KeyD}(h:lessK a b):a≠b:=by rintro rfl;unfold lessK at h;omega
theorem zNw{a b:KeyD}(h:lessK a b):¬lessK b a:=by unfold lessK at *;omega
theorem zCk{a b c:KeyD}(h:lessK a b)(k:lessK b c):lessK a c:=by unfold lessK at *;omega
theorem zCw{a b:KeyD}(h:¬lessK a b)(c:a≠b):lessK b a:=by
 have d:=Xw (lessK b a);rcases d with k|k
 ·exact k
 ·exfalso;apply c;unfold lessK at h k;exact zF3 (by omega) (by omega) (by omega)
theorem RisK.uniq:∀{l m:List KeyD},RisK l->RisK m->(∀k,k∈l↔k∈m)->l=m
 |[],[],_,_,_=>rfl
 |[],b::m,_,_,h=>by have:=(h b).2 (Qs ..);cases this
 |a::l,[],_,_,h=>by have:=(h a).1 (Qs ..);cases this
 |a::l,b::m,f,g,h=>by
  rw [RisK,QM] at f g
  have o:a=b:=by
   have c:=Ql.1 ((h a).1 (Qs ..));rcases c with d|d
   ·exact d
   ·have c:=Ql.1 ((h b).2 (Qs ..));rcases c with p|p
    ·exact p.symm
    ·exact absurd (g.1 a d) (zNw (f.1 b p))
  subst o;congr 1;refine RisK.uniq f.2 g.2 λk=>⟨λe=>?_,λe=>?_⟩
  ·have c:=Ql.1 ((h k).1 (QF _ e));rcases c with rfl|d
   ·exact absurd rfl (zAS (f.1 k e))
   ·exact d
  ·have c:=Ql.1 ((h k).2 (QF _ e));rcases c with rfl|d
   ·exact absurd rfl (zAS (g.1 k e))
   ·exact d
abbrev Rises (l:List Int):Prop:=l.Pairwise (· < ·)
theorem mem_tw{x y:Int}:∀{l:List Int},y∈l.takeWhile (λy=>decide (y<x))->y<x
 |[],h=>by cases h
 |z::r,h=>by
  rw [XW] at h;split at h
  ·rename_i b;have c:=Ql.1 h;rcases c with rfl|h
   ·simpa using b
   ·exact mem_tw h
  ·cases h
theorem zHI(x:Int)(l:List Int)(h:Rises l):(x∈l/\insR x l=l)\/(x∉l/\insR x l=l.takeWhile (· < x)++x::l.dropWhile (· < x)):=by
 have d:=Vq (p:=λy=>decide (y<x)) (l:=l);have c:∀y∈l.takeWhile (λy=>decide (y<x)),y<x:=λy o=>mem_tw o
 cases hd:l.dropWhile (λy=>decide (y<x)) with
 |nil =>
  right;refine⟨λb=>?_,?_⟩
  ·rw [<-d,hd,QE] at b;exact absurd (c x b) (by omega)
  ·unfold insR;rw [hd];simp
 |cons y r =>
  have o:¬y<x:=by
   have:=List.head?_dropWhile_not (λy=>decide (y<x)) l;rw [hd] at this;simpa using this
  have e:Rises (y::r):=by
   rw [<-hd];exact List.Pairwise.sublist (List.dropWhile_sublist _) h
  by_cases f:y=x
  ·subst f;left;refine⟨by rw [<-d,hd];simp,?_⟩;unfold insR;rw [hd];simp
  ·right;refine⟨λb=>?_,?_⟩
   ·rw [<-d,hd] at b;have g:=Qf.1 b;rcases g with b|b
    ·exact absurd (c x b) (by omega)
    ·have g:=Ql.1 b;rcases g with b|b
     ·exact f b.symm
     ·have:=(QM.1 e).1 x b;omega
   ·unfold insR;rw [hd];simp [f]
theorem zO7(x y:Int)(l:List Int)(h:Rises l):y∈insR x l↔y=x\/y∈l:=by
 have d:=zHI x l h;rcases d with ⟨c,b⟩|⟨c,b⟩
 ·rw [b];exact⟨.inr,λh=>h.elim (λh=>h ▸ c) id⟩
 ·rw [b];have e:=Vq (p:=λy=>decide (y<x)) (l:=l)
  conv=>rhs;rw [<-e]
  simp only [Qf,Ql];constructor
  ·rintro(h|h|h) <;> simp [h]
  ·rintro(h|h|h) <;> simp [h]
theorem zNu(x:Int)(l:List Int)(h:Rises l):Rises (insR x l):=by
 have d:=zHI x l h;rcases d with ⟨v,f⟩|⟨v,f⟩
 ·rw [f];exact h
 ·rw [f];have w:=Vq (p:=λy=>decide (y<x)) (l:=l);have g:∀y∈l.takeWhile (λy=>decide (y<x)),y<x:=λy c=>mem_tw c;have A:=h;rw [<-w] at A;have d:=VK.1 A;obtain⟨E,o,F⟩:=d
  have q:∀y∈l.dropWhile (λy=>decide (y<x)),x<y:=by
   intro y c
   cases hd:l.dropWhile (λy=>decide (y<x)) with
   |nil=>rw [hd] at c;cases c
   |cons z r =>
    have H:¬z<x:=by
     have:=List.head?_dropWhile_not (λy=>decide (y<x)) l;rw [hd] at this;simpa using this
    have G:z≠x:=λe=>v (by rw [<-w,hd,e];simp);rw [hd] at c o;have d:=Ql.1 c;rcases d with rfl|c
    ·omega
    ·have:=(QM.1 o).1 y c;omega
  refine VK.2 ⟨E,QM.2 ⟨q,o⟩,λa C b t=>?_⟩;have d:=Ql.1 t;rcases d with rfl|t
  ·exact g a C
  ·exact F a C b t
theorem zMe(l:List Int)(x:Int):risingL (l++[x])=insR x (risingL l):=by unfold risingL;rw [VF];rfl
theorem zGK(l:List Int):Rises (risingL l)/\∀y,y∈risingL l↔y∈l:=by
 have b:∀n,n<=l.length->Rises (risingL (l.take n))/\∀y,y∈risingL (l.take n)↔y∈l.take n:=by
  intro n
  induction n with
  |zero=>intro _;rw [Xa];exact⟨List.Pairwise.nil,λy=>Iff.rfl⟩
  |succ n d =>
   intro g;have e:=d (by omega);obtain⟨c,f⟩:=e;rw [take_add (show n<l.length by omega),zMe];refine⟨zNu _ _ c,λy=>?_⟩;rw [zO7 _ _ _ c,f,Qf,Qc];exact or_comm
 have:=b l.length (Qe _)
 rwa [Qg] at this
def okP (sz:Int) (fr:List Int):Prop:=1<=sz/\sz<=400/\(∀x∈fr,0<=x/\x<sz)/\fr.Nodup
instance (sz:Int) (fr:List Int):Decidable (okP sz fr):=by unfold okP;exact inferInstance
abbrev PoolD:=Int×List Int
def zP:PoolD:=(0,[])
def takeP (p:PoolD):Int×PoolD×Int:=if okP p.1 p.2 then (match p.2.getLast? with|none=>(0,zP,140)|some x=>(x,(p.1,p.2.dropLast),0)) else (0,zP,130)
def giveP (p:PoolD) (n:Int):PoolD×Int:=if okP p.1 p.2 then (if n<0\/p.1<=n then (zP,1) else if n∈p.2 then (zP,150) else ((p.1,p.2++[n]),0)) else (zP,130)
def takesP (p:PoolD) (m:Int):List Int×PoolD×Int:=
 if okP p.1 p.2 then (if m<0 then ([],zP,1) else if (p.2.length:Int)<m then ([],zP,140) else ((p.2.drop (p.2.length - m.toNat)).reverse,(p.1,p.2.take (p.2.length - m.toNat)),0)) else ([],zP,130)
def downTo (n:Nat):List Int:=(List.range n).reverse.map λk:Nat=>(k:Int)
def newP (n:Int):PoolD×Int:=if n<1\/400<n then (zP,1) else ((n,downTo n.toNat),0)
abbrev plV (sz:Int) (a:Option Addr) (n c:Nat):Value:=.agg #[.int .i64 sz,.slice a n c]
theorem pl_one(sz:Int)(a:Option Addr)(n c:Nat):∀u∈[Value.int .i64 sz,.slice a n c],u.oneCell'=true:=by intro u b;simp at b;rcases b with rfl|rfl <;> rfl
def PoolO (B:Nat) (w:World) (v:Value) (p:PoolD):Prop:=∃a c,v=plV p.1 a p.2.length c/\Own B 3 w (.slice a p.2.length c) p.2
theorem PoolO.older{w:World}[h:Le u' u]{v:Value}{p:PoolD}(a:PoolO u.heap.size w v p):PoolO u'.heap.size w v p:=by obtain⟨s,c,b,d⟩:=a;exact⟨s,c,b,d.older⟩
theorem PoolO.mk{w:World}{sz:Int}{c:Nat}{l:List Int}(h:Own B 3 w (.slice a n c) l):PoolO B w (plV sz a n c) (sz,l):=by
 have b:=h.sl.len;obtain rfl:=b;exact⟨a,c,rfl,h⟩
theorem zP_o(B:Nat)(w:World):PoolO B w (plV 0 none 0 0) zP:=⟨none,0,rfl,Own.nil _ _ _⟩
theorem zCO(n:Nat):(downTo n).length=n:=by simp [downTo]
theorem zNj(h:k<n):(downTo n)[k]? = some (((n - 1 - k:Nat)):Int):=by
 unfold downTo;rw [QK,List.getElem?_reverse (by simpa using h),Vm,VS (by omega)];rfl
theorem zLE(h:k<n):(downTo n).take (k+1)=(downTo n).take k++[((n - 1 - k:Nat):Int)]:=by
 have d:=zCO n;rw [take_add (by omega)];have:=zNj h;have b:=Qy.1 this;obtain⟨e,c⟩:=b;rw [c]
structure StD where
 key:KeyD
 d:Int
deriving DecidableEq
def zSt:StD:=⟨zKey,0⟩
def mayX (x:StD):Prop:=mayK x.key/\0<=x.d/\x.d<=200
instance (x:StD):Decidable (mayX x):=by unfold mayX;exact inferInstance
abbrev SRis (L:List StD):Prop:=L.Pairwise (λa b=>lessK a.key b.key)
theorem SRis.nodup{L:List StD}(h:SRis L):L.Nodup:=by
 rw [Qx];exact h.imp λ{a b} h e=>zAS h (congrArg StD.key e)
theorem SRis.inj{L:List StD}(h:SRis L){x y:StD}(f:x∈L)(g:y∈L)(e:x.key=y.key):x=y:=by
 have b:=QI.1 f;obtain⟨i,hi,rfl⟩:=b;have b:=QI.1 g;obtain⟨j,d,rfl⟩:=b;have b:=VG i j;rcases b with c|rfl|c
 ·exact absurd e (zAS (QX.1 h i j hi d c))
 ·rfl
 ·exact absurd e.symm (zAS (QX.1 h j i d hi c))
theorem SRis.uniq{L M:List StD}(h:SRis L)(k:SRis M)(e:∀x,x∈L↔x∈M):L=M:=by
 have d:L.map (·.key)=M.map (·.key):=RisK.uniq (QY.2 h) (QY.2 k) λq=>by
  simp only [Qq];exact⟨λ⟨x,b,c⟩=>⟨x,(e x).1 b,c⟩,λ⟨x,b,c⟩=>⟨x,(e x).2 b,c⟩⟩
 have o:L.length=M.length:=by have:=congrArg List.length d;simpa using this
 apply Xg o;intro i f g;refine k.inj ((e _).1 (Qa f)) (Qa g) ?_;have:=congrArg (λl=>l[i]?) d;simpa [f,g] using this
def insS (x:StD):List StD->List StD
 |[]=>[x]
 |y::r=>if lessK y.key x.key then y::insS x r else x::y::r
theorem zBV(x:StD):∀L,(insS x L).Perm (x::L)
 |[]=>.refl _
 |y::r=>by
  unfold insS;split
  ·exact((zBV x r).cons y).trans (.swap ..)
  ·exact .refl _
theorem zEu(x:StD):∀{L},SRis L->(∀y∈L,y.key≠x.key)->SRis (insS x L)
 |[],_,_=>by simp [insS]
 |y::r,h,f=>by
  rw [SRis,QM] at h;unfold insS;split
  ·rename_i c;refine QM.2 ⟨λz b=>?_,zEu x h.2 λz b=>f z (QF _ b)⟩;have e:=Ql.1 ((zBV x r).mem_iff.1 b);rcases e with rfl|b
   ·exact c
   ·exact h.1 z b
  ·rename_i c;have d:=zCw c (f y (Qs ..));refine QM.2 ⟨λz b=>?_,QM.2 h⟩;have e:=Ql.1 b;rcases e with rfl|b
   ·exact d
   ·exact zCk d (h.1 z b)
theorem zMJ(x : StD) : ∀ (L : List StD) (i : Nat), i <= L.length -> (∀ j, j < i -> (e : j < L.length) -> lessK L[j].key x.key) -> ((hi : i < L.length) -> ¬ lessK L[i].key x.key) -> insS x L = L.take i ++ x :: L.drop i
  | [], i, hi, _, _ => by have : i = 0 := by simpa using hi
                          subst this; rfl
  | y :: r, 0, _, _, h => by
    have := h (by simp);unfold insS; rw [if_neg (by simpa using this)]; rfl
  | y :: r, i + 1, hi, d, h => by
    have h0 := d 0 (by omega) (by simp);unfold insS; rw [if_pos (by simpa using h0)];rw [zMJ x r i (by simpa using hi) (λj e b => by have := d (j + 1) (by omega) (by simpa using b); simpa using this) (λc => by have := h (by simpa using c); simpa using this)];rfl
def hasS (L:List StD) (k:KeyD):Option StD:=L.find? λx=>decide (x.key=k)
theorem zI5{L:List StD}(h:SRis L){k:KeyD}{x:StD}:hasS L k=some x↔x∈L/\x.key=k:=by
 constructor
 ·intro e;unfold hasS at e;exact⟨List.mem_of_find?_eq_some e,by simpa using List.find?_some e⟩
 ·rintro⟨c,d⟩
  cases e:hasS L k with
  |none =>
   unfold hasS at e;have:=List.find?_eq_none.1 e x c;simp [d] at this
  |some y =>
   unfold hasS at e;have f:=List.mem_of_find?_eq_some e;have b:y.key=k:=by simpa using List.find?_some e
   rw [h.inj f c (b.trans d.symm)]
theorem zI4{L:List StD}{k:KeyD}:hasS L k=none↔∀x∈L,x.key≠k:=by
 unfold hasS;rw [List.find?_eq_none];simp
def putS' (size:Nat) (L:List StD) (x:StD):List StD×Int:=
 if mayX x then (match hasS L x.key with
  |some _=>(L,150)
  |none=>if size<=L.length then (L,140) else (insS x L,0))
 else (L,1)
def ofS (L:List StD) (s:Int):List StD:=L.filter λx=>decide (x.key.slot=s)
def dropS (L:List StD) (s:Int):List StD:=L.filter λx=>decide (x.key.slot≠s)
structure StoT (size:Nat) (ts:TS) (fr:List Int) (st:List StD):Prop where
 ok:okP size fr
 stl:st.length=size
 tell:∀k n,ts.M k=some n↔∃p:Nat,n=p/\(p:Int)∉fr/\∃x,st[p]? = some x/\x.key=k
 cnt:ts.u+fr.length=size
structure StoM (fr:List Int) (st L:List StD):Prop where
 ris:SRis L
 mem:∀x,x∈L↔∃p:Nat,(p:Int)∉fr/\st[p]? = some x
def ChI (fr:List Int) (st:List StD) (ch:Int->List Int):Prop:=∀s,(ch s).Nodup/\∀n,n∈ch s↔∃p:Nat,n=p/\(p:Int)∉fr/\∃x,st[p]? = some x/\x.key.slot=s
theorem StoT.inj{size:Nat}{ts:TS}{fr:List Int}{st:List StD}(T:StoT size ts fr st){p q:Nat}{x y:StD}(c:(p:Int)∉fr)(d:(q:Int)∉fr)(f:st[p]? = some x)(g:st[q]? = some y)(e:x.key=y.key):p=q:=by
 have h:=(T.tell x.key p).2 ⟨p,rfl,c,x,f,rfl⟩;have b:=(T.tell x.key q).2 ⟨q,rfl,d,y,g,e.symm⟩;rw [h] at b;have:=QL b;omega
def usedP (size:Nat) (fr:List Int):List Nat:=(List.range size).filter λp:Nat=>decide ((p:Int)∉fr)
theorem zJz{size:Nat}{fr:List Int}(h:okP size fr):(usedP size fr).length+fr.length=size:=by
 have g:fr.Perm (((List.range size).filter λp:Nat=>decide ((p:Int)∈fr)).map λp:Nat=>(p:Int)):=by
  refine(JM h.2.2.2 ?_).2 λn=>?_
  ·rw [Qx,QY];have c:((List.range size).filter λp:Nat=>decide ((p:Int)∈fr)).Nodup:=(Xj).filter _;rw [Qx] at c;exact c.imp λ{a b} h e=>h (by omega)
  ·simp only [Qq,QC,Q0,decide_eq_true_eq];constructor
   ·intro o;have:=h.2.2.1 n o;exact⟨n.toNat,⟨by omega,by rwa [show ((n.toNat:Nat):Int)=n by omega]⟩,by omega⟩
   ·rintro⟨p,⟨_,q⟩,rfl⟩;exact q
 have t:=g.length_eq;rw [Qr] at t
 have v:∀(l:List Nat),(l.filter λp:Nat=>decide ((p:Int)∉fr)).length+(l.filter λp:Nat=>decide ((p:Int)∈fr)).length=l.length:=by
  intro l
  induction l with
  |nil=>rfl
  |cons a r d =>
   by_cases f:(a:Int)∈fr
   ·simp [f] at d ⊢;omega
   ·simp [f] at d ⊢;omega
 have:=v (List.range size);unfold usedP;rw [Vm] at this;omega
theorem StoT.len{size:Nat}{ts:TS}{fr:List Int}{st L:List StD}(T:StoT size ts fr st)(M:StoM fr st L):L.length=ts.u:=by
 have v:=zJz T.ok;have w:=T.cnt
 have c:L.Perm ((usedP size fr).map λp=>st.getD p zSt):=by
  refine(JM M.ris.nodup ?_).2 λx=>?_
  ·rw [Qx,QY];have d:(usedP size fr).Nodup:=(Xj).filter _;rw [Qx] at d;refine Vv (λ{a b} g h l e=>l ?_) d;simp only [usedP,QC,Q0,decide_eq_true_eq] at g h;have f:a<st.length:=by rw [T.stl];exact g.1
   have q:b<st.length:=by rw [T.stl];exact h.1
   have r:st[a]? = some (st.getD a zSt):=by simp [f]
   have t:st[b]? = some (st.getD b zSt):=by simp [q]
   exact T.inj g.2 h.2 r t (by rw [e])
  ·rw [M.mem x];simp only [Qq,usedP,QC,Q0,decide_eq_true_eq];constructor
   ·rintro⟨p,c,o⟩;have:=(Qy.1 o).1;exact⟨p,⟨by rw [<-T.stl];exact this,c⟩,by rw [Qk,o];rfl⟩
   ·rintro⟨p,⟨f,c⟩,rfl⟩;have f:p<st.length:=by rw [T.stl];exact f
    exact⟨p,c,by simp [f]⟩
 have:=c.length_eq;rw [Qr] at this;omega
theorem StoT.get{size:Nat}{ts:TS}{fr:List Int}{st L:List StD}(T:StoT size ts fr st)(M:StoM fr st L)(k:KeyD):
  (∃(p:Nat) (x:StD),ts.M k=some (p:Int)/\(p:Int)∉fr/\st[p]? = some x/\x.key=k/\hasS L k=some x)\/(ts.M k=none/\hasS L k=none):=by
 cases g:ts.M k with
 |some n =>
  have d:=(T.tell k n).1 g;obtain⟨p,rfl,b,x,c,h⟩:=d;exact .inl ⟨p,x,rfl,b,c,h,(zI5 M.ris).2 ⟨(M.mem x).2 ⟨p,b,c⟩,h⟩⟩
 |none =>
  refine .inr ⟨rfl,zI4.2 λx c e=>?_⟩;have d:=(M.mem x).1 c;obtain⟨p,b,f⟩:=d;have:=(T.tell k p).2 ⟨p,rfl,b,x,f,e⟩;rw [g] at this;cases this
theorem StoT.put{size:Nat}{ts:TS}{fr:List Int}{p:Nat}{st L:List StD}{l:Int->List Int}{x:StD}(T:StoT size ts (fr++[(p:Int)]) st)(M:StoM (fr++[(p:Int)]) st L)(C:ChI (fr++[(p:Int)]) st l)(V:mayK x.key)(v:ts.M x.key=none):
  (putTS size ts x.key p).2=0/\StoT size (putTS size ts x.key p).1 fr (st.set p x)/\StoM fr (st.set p x) (insS x L)/\ChI fr (st.set p x) (λs=>if s=x.key.slot then l s++[(p:Int)] else l s):=by
 have f:=T.ok;obtain⟨W,X,Q,w⟩:=f;have o:=T.cnt;rw [Qb,VC] at o;have z:p<size:=by have:=Q p (by simp);omega
 have A:p<st.length:=by rw [T.stl];exact z
 rw [JU] at w;have E:(p:Int)∉fr:=λh=>w.2.2 _ h _ (Qc.2 rfl) rfl
 have r:putTS size ts x.key p=(⟨λS=>if S=x.key then some (p:Int) else ts.M S,ts.u+1⟩,0):=by
  unfold putTS;rw [if_pos V,v];simp only;rw [if_neg (by omega)]
 rw [r]
 have use:∀(q:Nat) (y:StD),((q:Int)∉fr/\(st.set p x)[q]? = some y)↔(q=p/\y=x)\/((q:Int)∉fr++[(p:Int)]/\st[q]? = some y):=by
  intro q y;rw [Vw];by_cases e:p=q
  ·subst e;rw [if_pos rfl,if_pos A];constructor
   ·rintro⟨_,h⟩;exact .inl ⟨rfl,(QL h).symm⟩
   ·rintro(⟨_,rfl⟩|⟨h,_⟩)
    ·exact⟨E,rfl⟩
    ·exact absurd (by simp) h
  ·rw [if_neg e];simp only [Qf,Qc,not_or];constructor
   ·rintro⟨c,d⟩;exact .inr ⟨⟨c,by omega⟩,d⟩
   ·rintro(⟨h,_⟩|⟨c,d⟩)
    ·exact absurd h.symm e
    ·exact⟨c.1,d⟩
 have F:∀y∈L,y.key≠x.key:=λy Y e=>by
  have f:=(M.mem y).1 Y;obtain⟨q,G,H⟩:=f;have:=(T.tell x.key q).2 ⟨q,rfl,G,y,H,e⟩;rw [v] at this;cases this
 refine⟨rfl,⟨⟨W,X,λn I=>Q n (QN _ I),w.1⟩,by rw [Jc];exact T.stl,λk n=>?_,by show ts.u+1+fr.length=size;omega⟩,⟨zEu x M.ris F,λy=>?_⟩,λs=>?_⟩
 ·show (if k=x.key then some (p:Int) else ts.M k)=some n↔_
  have:(∃q:Nat,n=q/\(q:Int)∉fr/\∃y,(st.set p x)[q]? = some y/\y.key=k)↔(n=p/\x.key=k)\/∃q:Nat,n=q/\(q:Int)∉fr++[(p:Int)]/\∃y,st[q]? = some y/\y.key=k:=by
   constructor
   ·rintro⟨q,rfl,c,y,d,g⟩;have f:=(use q y).1 ⟨c,d⟩;rcases f with ⟨rfl,rfl⟩|⟨J,K⟩
    ·exact .inl ⟨rfl,g⟩
    ·exact .inr ⟨q,rfl,J,y,K,g⟩
   ·rintro(⟨rfl,h⟩|⟨q,rfl,c,y,d,g⟩)
    ·have:=(use p x).2 (.inl ⟨rfl,rfl⟩);exact⟨p,rfl,this.1,x,this.2,h⟩
    ·have:=(use q y).2 (.inr ⟨c,d⟩);exact⟨q,rfl,this.1,y,this.2,g⟩
  rw [this,<-T.tell];split
  ·rename_i e;subst e;rw [v];simp;exact eq_comm
  ·rename_i e;constructor
   ·exact .inr
   ·rintro(⟨_,h⟩|h)
    ·exact absurd h.symm e
    ·exact h
 ·rw [(zBV x L).mem_iff,Ql,M.mem];constructor
  ·rintro(rfl|⟨q,c,d⟩)
   ·exact⟨p,(use p y).2 (.inl ⟨rfl,rfl⟩)⟩
   ·exact⟨q,(use q y).2 (.inr ⟨c,d⟩)⟩
  ·rintro⟨q,h⟩;have f:=(use q y).1 h;rcases f with ⟨_,rfl⟩|h
   ·exact .inl rfl
   ·exact .inr ⟨q,h⟩
 ·have t:=C s
  have:∀n:Int,(∃q:Nat,n=q/\(q:Int)∉fr/\∃y,(st.set p x)[q]? = some y/\y.key.slot=s)↔(n=p/\x.key.slot=s)\/n∈l s:=by
   intro n;rw [t.2 n];constructor
   ·rintro⟨q,rfl,c,y,d,g⟩;have f:=(use q y).1 ⟨c,d⟩;rcases f with ⟨rfl,rfl⟩|⟨J,K⟩
    ·exact .inl ⟨rfl,g⟩
    ·exact .inr ⟨q,rfl,J,y,K,g⟩
   ·rintro(⟨rfl,h⟩|⟨q,rfl,c,y,d,g⟩)
    ·have:=(use p x).2 (.inl ⟨rfl,rfl⟩);exact⟨p,rfl,this.1,x,this.2,h⟩
    ·have:=(use q y).2 (.inr ⟨c,d⟩);exact⟨q,rfl,this.1,y,this.2,g⟩
  have O:(p:Int)∉l s:=λh=>by obtain⟨q,G,c,_⟩:=(t.2 _).1 h;rw [<-G] at c;exact c (by simp)
  dsimp only;split
  ·rename_i e;refine⟨?_,λn=>?_⟩
   ·rw [JU];refine⟨t.1,by simp,λa Z b U=>?_⟩;rw [Qc] at U;subst U;rintro rfl;exact O Z
   ·rw [this,Qf,Qc];constructor
    ·rintro(h|h)
     ·exact .inr h
     ·exact .inl ⟨h,e.symm⟩
    ·rintro(⟨h,_⟩|h)
     ·exact .inr h
     ·exact .inl h
  ·rename_i e;refine⟨t.1,λn=>?_⟩;rw [this];exact⟨.inr,λh=>h.elim (λh=>absurd h.2.symm e) id⟩
theorem StoT.drop{size:Nat}{ts:TS}{fr:List Int}{st:List StD}(T:StoT size ts fr st){p:Nat}{x:StD}(v:(p:Int)∉fr)(t:st[p]? = some x):
  StoT size (dropTS ts x.key).1 (fr++[(p:Int)]) st:=by
 have g:=T.ok;obtain⟨C,E,F,G⟩:=g;have w:=T.cnt;have H:p<size:=by rw [<-T.stl];exact(Qy.1 t).1
 have I:=(T.tell x.key p).2 ⟨p,rfl,v,x,t,rfl⟩;have hd:dropTS ts x.key=(⟨λz=>if z=x.key then none else ts.M z,ts.u - 1⟩,true):=by unfold dropTS;rw [I]
 rw [hd]
 have l:okP size (fr++[(p:Int)]):=by
  refine⟨C,E,λn o=>?_,?_⟩
  ·have g:=Qf.1 o;rcases g with o|o
   ·exact F n o
   ·rw [Qc] at o;omega
  ·rw [JU];refine⟨G,by simp,λa J b A=>?_⟩;rw [Qc] at A;subst A;rintro rfl;exact v J
 have r:=zJz l;rw [Qb,VC] at r;refine⟨l,T.stl,λk n=>?_,by show ts.u - 1+(fr++[(p:Int)]).length=size;rw [Qb,VC];omega⟩;show (if k=x.key then none else ts.M k)=some n↔_;split
 ·rename_i e;subst e;constructor
  ·intro h;cases h
  ·rintro⟨q,rfl,c,y,d,f⟩;rw [Qf,Qc,not_or] at c;have:=T.inj c.1 v d t f;exact absurd (by rw [this]) c.2
 ·rename_i e;rw [T.tell];constructor
  ·rintro⟨q,rfl,c,y,d,f⟩;refine⟨q,rfl,λh=>?_,y,d,f⟩;have g:=Qf.1 h;rcases g with h|h
   ·exact c h
   ·rw [Qc] at h;have:q=p:=by omega
    subst this;rw [t] at d;cases d;exact e f.symm
  ·rintro⟨q,rfl,c,y,d,f⟩;exact⟨q,rfl,λh=>c (QN _ h),y,d,f⟩
theorem StoM.drop{fr:List Int}{st L:List StD}{g:Int->List Int}(M:StoM fr st L)(C:ChI fr st g)(s:Int):
  StoM (fr++g s) st (dropS L s)/\ChI (fr++g s) st (λs'=>if s'=s then [] else g s'):=by
 have d:∀(q:Nat) (y:StD),st[q]? = some y->((q:Int)∉fr++g s↔(q:Int)∉fr/\y.key.slot≠s):=by
  intro q y o;rw [Qf,not_or,(C s).2];constructor
  ·rintro⟨c,b⟩;exact⟨c,λe=>b ⟨q,rfl,c,y,o,e⟩⟩
  ·rintro⟨c,b⟩;refine⟨c,λ⟨p,r,_,t,l,e⟩=>b ?_⟩;have:q=p:=by omega
   subst this;rw [o] at l;cases l;exact e
 refine⟨⟨M.ris.sublist (XY ..),λx=>?_⟩,λs'=>?_⟩
 ·unfold dropS;rw [QC,M.mem,decide_eq_true_eq];constructor
  ·rintro⟨⟨q,c,b⟩,f⟩;exact⟨q,(d q x b).2 ⟨c,f⟩,b⟩
  ·rintro⟨q,c,b⟩;have:=(d q x b).1 c;exact⟨⟨q,this.1,b⟩,this.2⟩
 ·dsimp only;split
  ·rename_i e;subst e;refine⟨by simp,λn=>⟨λh=>by simp at h,?_⟩⟩;rintro⟨q,rfl,c,y,b,f⟩;exact absurd f ((d q y b).1 c).2
  ·rename_i e;refine⟨(C s').1,λn=>?_⟩;rw [(C s').2];constructor
   ·rintro⟨q,rfl,c,y,b,f⟩;exact⟨q,rfl,(d q y b).2 ⟨c,λh=>e (f.symm.trans h)⟩,y,b,f⟩
   ·rintro⟨q,rfl,c,y,b,f⟩;exact⟨q,rfl,((d q y b).1 c).1,y,b,f⟩
theorem StoT.of{size:Nat}{ts:TS}{fr:List Int}{st L:List StD}{r:Int->List Int}(T:StoT size ts fr st)(M:StoM fr st L)(C:ChI fr st r)(s:Int):
  ((r s).map λn=>st.getD n.toNat zSt).Perm (ofS L s):=by
 have d:=C s;refine(JM ?_ (M.ris.nodup.filter _)).2 λx=>?_
 ·rw [Qx,QY];have f:=d.1;rw [Qx] at f;refine Vv (λ{a b} v w o e=>o ?_) f;have g:=(d.2 a).1 v;obtain⟨p,rfl,h,y,c,_⟩:=g;have g:=(d.2 b).1 w;obtain⟨q,rfl,l,z,t,_⟩:=g;simp only [QW,Qk,c,t,QP] at e;subst e;rw [T.inj h l c t rfl]
 ·rw [QC,M.mem,decide_eq_true_eq,Qq];constructor
  ·rintro⟨n,A,rfl⟩;have g:=(d.2 n).1 A;obtain⟨p,rfl,h,y,c,l⟩:=g;simp only [QW,Qk,c,QP];exact⟨⟨p,h,c⟩,l⟩
  ·rintro⟨⟨p,h,c⟩,l⟩;refine⟨p,(d.2 _).2 ⟨p,rfl,h,x,c,l⟩,?_⟩;simp only [QW,Qk,c,QP]
structure EdN where
 f:Nat
 t:Nat
deriving DecidableEq
structure GrD where
 n:Nat
 es:List EdN
 ws:List (List ByteArray)
structure QyD where
 kind:Int
 frm:Int
 to:Int
 words:List ByteArray
 rad:Int
 most:Int
def nbL (g:GrD) (dir:Int) (u:Nat):List Nat:=if dir=1 then (g.es.filter λe=>e.t==u).map (·.f) else (g.es.filter λe=>e.f==u).map (·.t)
def src (q:QyD) (dir:Int):List Nat:=if dir=0 then [q.frm.toNat] else if q.kind=1 then [q.to.toNat] else []
def goesOn (q:QyD) (d:Nat):Bool:=!(decide (q.kind=3) && decide (q.rad<=d))
def levP (g:GrD) (q:QyD) (dir:Int):Nat->List Nat×List Nat
 |0=>([],src q dir)
 |d+1=>((levP g q dir d).1++(levP g q dir d).2,
  if goesOn q d then (List.range g.n).filter λv=>!((levP g q dir d).1++(levP g q dir d).2).contains v && (levP g q dir d).2.any λu=>(nbL g dir u).contains v else [])
def lv (g:GrD) (q:QyD) (dir:Int) (d:Nat):List Nat:=(levP g q dir d).2
def sn (g:GrD) (q:QyD) (dir:Int) (d:Nat):List Nat:=(levP g q dir d).1
structure GrOk (g:GrD):Prop where
 n1:1<=g.n
 n2:g.n<=200
 ed:∀e∈g.es,e.f<g.n/\e.t<g.n
structure QyOk (q:QyD) (n:Nat):Prop where
 kind:q.kind=1\/q.kind=2\/q.kind=3
 frm:0<=q.frm/\q.frm<n
 to:q.kind<3->0<=q.to/\q.to<n
 near:q.kind=3->1<=q.words.length/\q.words.length<=8/\0<=q.rad/\q.rad<=200/\1<=q.most/\q.most<=100
section
variable {g:GrD} {q:QyD} {dir:Int}
theorem zQx:sn g q dir 0=[]:=rfl
theorem zMM:lv g q dir 0=src q dir:=rfl
theorem zCY(d:Nat):sn g q dir (d+1)=sn g q dir d++lv g q dir d:=rfl
theorem zML(d:Nat):lv g q dir (d+1)=if goesOn q d then (List.range g.n).filter λv=>!(sn g q dir (d+1)).contains v && (lv g q dir d).any λu=>(nbL g dir u).contains v else []:=rfl
theorem zBH{d v:Nat}:v∈lv g q dir (d+1)↔goesOn q d=true/\v<g.n/\v∉sn g q dir (d+1)/\∃u∈lv g q dir d,v∈nbL g dir u:=by
 rw [zML];split
 ·rename_i h;simp only [QC,Q0,Qz,VJ,Vi,VA,h,true_and];simp only [<-Vy,VA]
 ·rename_i h;simp [h]
theorem mem_sn{d v:Nat}:v∈sn g q dir d↔∃j,j<d/\v∈lv g q dir j:=by
 induction d with
 |zero=>simp [zQx]
 |succ d e =>
  rw [zCY,Qf,e];constructor
  ·rintro(⟨j,f,b⟩|h)
   ·exact⟨j,by omega,b⟩
   ·exact⟨d,by omega,h⟩
  ·rintro⟨j,f,b⟩;have c:=QH j d;rcases c with h|h
   ·exact .inl ⟨j,h,b⟩
   ·have c:j=d:=by omega
    obtain rfl:=c;exact .inr b
theorem lv_lt(b:QyOk q g.n){d v:Nat}(h:v∈lv g q dir d):v<g.n:=by
 cases d with
 |zero =>
  rw [zMM] at h;unfold src at h;have c:=b.frm;split at h
  ·simp at h;omega
  ·split at h
   ·rename_i e;have:=b.to (by omega);simp at h;omega
   ·simp at h
 |succ d=>exact(zBH.1 h).2.1
theorem lv_ris(d:Nat):(lv g q dir d).Pairwise (· < ·):=by
 cases d with
 |zero =>
  rw [zMM];unfold src;split <;> (try split) <;> simp
 |succ d =>
  rw [zML];split
  ·exact List.pairwise_lt_range.filter _
  ·exact .nil
theorem zKt{v:Nat}(hi:v∈lv g q dir i)(c:v∈lv g q dir j):i=j:=by
 have b:∀{i j:Nat},i<j->v∈lv g q dir i->v∈lv g q dir j->False:=by
  intro i j d hi c
  cases j with
  |zero=>omega
  |succ j=>exact(zBH.1 c).2.2.1 (mem_sn.2 ⟨i,d,hi⟩)
 have e:=VG i j;rcases e with h|h|h
 ·exact(b h hi c).elim
 ·exact h
 ·exact(b h c hi).elim
theorem zPE(d:Nat):(sn g q dir d).Nodup:=by
 induction d with
 |zero=>exact .nil
 |succ d c =>
  rw [zCY,JU];refine⟨c,?_,λa f b l e=>?_⟩
  ·rw [Qx];exact(lv_ris d).imp λh=>by omega
  ·subst e;have o:=mem_sn.1 f;obtain⟨j,r,p⟩:=o;have:=zKt p l;omega
theorem zPe{l:List Nat}(h:l.Nodup)(c:∀x∈l,x<n):l.length<=n:=by
 have d:l.Perm ((List.range n).filter λx=>decide (x∈l)):=by
  refine(JM h (List.nodup_range.filter _)).2 λx=>?_;simp only [QC,Q0,decide_eq_true_eq];exact⟨λb=>⟨c x b,b⟩,λb=>b.2⟩
 rw [d.length_eq];exact Qw (Qv _ _) (by simp)
theorem sn_le(b:QyOk q g.n)(d:Nat):(sn g q dir d).length<=g.n:=
 zPe (zPE d) λx c=>by obtain⟨j,_,h⟩:=mem_sn.1 c;exact lv_lt b h
theorem zQc{d:Nat}(h:lv g q dir (d+1)≠[]):lv g q dir d≠[]:=by
 have b:=List.exists_mem_of_ne_nil _ h;obtain⟨v,c⟩:=b;have b:=zBH.1 c;obtain⟨_,_,_,u,e,_⟩:=b;exact List.ne_nil_of_mem e
theorem sn_ge{d:Nat}(h:lv g q dir d≠[]):d<=(sn g q dir d).length:=by
 induction d with
 |zero=>omega
 |succ d c =>
  have b:=zQc h;have:=c b;rw [zCY,Qb];have:=JI.2 b;omega
theorem zPb(b:QyOk q g.n){d:Nat}(h:lv g q dir d≠[]):d<g.n:=by
 have e:=sn_ge h;have c:=sn_le (dir:=dir) b (d+1);rw [zCY,Qb] at c;have:=JI.2 h;omega
end
def mls1 (g:GrD) (q:QyD) (slot:Int) (i:Nat) (dir:Int):List StD:=(lv g q dir i).map λv:Nat=>⟨⟨slot,dir,v⟩,i⟩
def mls (g:GrD) (q:QyD) (slot:Int) (i:Nat):List StD:=mls1 g q slot i 0++mls1 g q slot i 1
def insAll (f S:List StD):List StD:=f.foldl (λL x=>insS x L) S
def sts (g:GrD) (q:QyD) (slot:Int):Nat->List StD
 |0=>[]
 |i+1=>insAll (mls g q slot i) (sts g q slot i)
section
variable {g:GrD} {q:QyD} {slot:Int}
theorem zA5{x:StD}:x∈mls g q slot i↔x.key.slot=slot/\x.d=i/\(x.key.dir=0\/x.key.dir=1)/\∃v:Nat,x.key.v=v/\v∈lv g q x.key.dir i:=by
 unfold mls mls1;simp only [Qf,Qq];constructor
 ·rintro(⟨v,h,rfl⟩|⟨v,h,rfl⟩)
  ·exact⟨rfl,rfl,.inl rfl,v,rfl,h⟩
  ·exact⟨rfl,rfl,.inr rfl,v,rfl,h⟩
 ·obtain⟨⟨s,d,v⟩,e⟩:=x;rintro⟨rfl,rfl,h,v,rfl,b⟩;rcases h with h|h
  ·dsimp only at h;subst h;exact .inl ⟨v,b,rfl⟩
  ·dsimp only at h;subst h;exact .inr ⟨v,b,rfl⟩
theorem zIs(i:Nat):SRis (mls g q slot i):=by
 unfold mls mls1;rw [SRis,VK];refine⟨?_,?_,?_⟩
 ·rw [QY];exact(lv_ris i).imp λh=>.inr ⟨rfl,.inr ⟨rfl,Int.ofNat_lt.2 h⟩⟩
 ·rw [QY];exact(lv_ris i).imp λh=>.inr ⟨rfl,.inr ⟨rfl,Int.ofNat_lt.2 h⟩⟩
 ·intro a d b e;have c:=Qq.1 d;obtain⟨u,_,rfl⟩:=c;have c:=Qq.1 e;obtain⟨v,_,rfl⟩:=c;exact .inr ⟨rfl,.inl (show (0:Int)<1 by decide)⟩
theorem zBf(f S:List StD):(insAll f S).Perm (S++f):=by
 unfold insAll
 induction f generalizing S with
 |nil=>simp
 |cons x r b =>
  rw [JY];refine(b _).trans (((zBV x S).append_right r).trans ?_);simpa using (XH (l₁:=S) (a:=x) (l₂:=r)).symm
theorem zHH{f:List StD}:∀{S:List StD},SRis S->(f.Pairwise λa b=>a.key≠b.key)->(∀x∈f,∀y∈S,y.key≠x.key)->SRis (insAll f S):=by
 unfold insAll
 induction f with
 |nil=>intro S h _ _;exact h
 |cons x r o =>
  intro S h c e;rw [JY];rw [QM] at c;refine o (zEu x h (e x Qs)) c.2 λz l y d=>?_;have p:=Ql.1 ((zBV x S).mem_iff.1 d);rcases p with rfl|d
  ·exact c.1 z l
  ·exact e z (QF _ l) y d
theorem zBy{x:StD}:x∈sts g q slot i↔∃j,j<i/\x∈mls g q slot j:=by
 induction i with
 |zero=>simp [sts]
 |succ i d =>
  rw [sts,(zBf _ _).mem_iff,Qf,d];constructor
  ·rintro(⟨j,e,b⟩|h)
   ·exact⟨j,by omega,b⟩
   ·exact⟨i,by omega,h⟩
  ·rintro⟨j,e,b⟩;have c:=QH j i;rcases c with h|h
   ·exact .inl ⟨j,h,b⟩
   ·have c:j=i:=by omega
    obtain rfl:=c;exact .inr b
theorem zFu{x y:StD}(d:x∈mls g q slot i)(f:y∈mls g q slot j)(e:x.key=y.key):i=j:=by
 have b:=zA5.1 d;obtain⟨_,_,_,u,h,c⟩:=b;have b:=zA5.1 f;obtain⟨_,_,_,v,o,l⟩:=b;rw [e] at h c;have:u=v:=by omega
 subst this;exact zKt c l
theorem zHi{L:List StD}(h:SRis L):L.Pairwise λa b=>a.key≠b.key:=h.imp λh=>zAS h
theorem zF9(i:Nat):SRis (sts g q slot i):=by
 induction i with
 |zero=>exact .nil
 |succ i b =>
  refine zHH b (zHi (zIs i)) λx c y d e=>?_;have f:=zBy.1 d;obtain⟨j,l,h⟩:=f;have:=zFu h c e;omega
theorem zIr(b:QyOk q g.n)(h:g.n<=200)(l:0<=slot/\slot<=1000){x:StD}(e:x∈mls g q slot i):mayX x/\x.key.v<g.n/\0<=x.d/\x.d<g.n:=by
 have f:=zA5.1 e;obtain⟨o,p,r,v,t,c⟩:=f;have w:=lv_lt b c;have y:=zPb b (List.ne_nil_of_mem c);unfold mayX mayK;omega
theorem zD7(b:QyOk q g.n)(c:g.n<=200)(e:0<=slot/\slot<=1000){x:StD}(f:x∈sts g q slot i):mayX x/\x.key.v<g.n/\0<=x.d/\x.d<g.n/\x.key.slot=slot:=by
 have l:=zBy.1 f;obtain⟨j,_,h⟩:=l;have:=zIr b c e h;exact⟨this.1,this.2.1,this.2.2.1,this.2.2.2,(zA5.1 h).1⟩
theorem zF8(i:Nat):(sts g q slot i).length=(sn g q 0 i).length+(sn g q 1 i).length:=by
 induction i with
 |zero=>rfl
 |succ i b =>
  rw [sts,(zBf _ _).length_eq,Qb,b,zCY,zCY];simp only [mls,mls1,Qb,Qr];omega
end
def putC (x:StD):List StD->List StD
 |[]=>[x]
 |y::r=>if lessK y.key x.key then y::putC x r else if y.key=x.key then ⟨x.key,min x.d y.d⟩::r else x::y::r
def combL (l:List StD):List StD:=l.foldl (λL x=>putC x L) []
theorem zGx(a b:KeyD):lessK a b\/a=b\/lessK b a:=by
 unfold lessK;have c:=XD a.slot b.slot;rcases c with h|h|h
 ·omega
 ·have c:=XD a.dir b.dir;rcases c with d|d|d
  ·omega
  ·have c:=XD a.v b.v;rcases c with e|e|e
   ·omega
   ·exact .inr (.inl (zF3 h d e))
   ·omega
  ·omega
 ·omega
theorem zJk(x:StD):∀{L:List StD} {z:StD},z∈putC x L->z.key=x.key\/∃y∈L,y.key=z.key
 |[],z,h=>by simp [putC] at h;exact .inl (by rw [h])
 |y::r,z,h=>by
  unfold putC at h;split at h
  ·have b:=Ql.1 h;rcases b with rfl|h
   ·exact .inr ⟨_,Qs,rfl⟩
   ·have b:=zJk x h;rcases b with h|⟨w,c,d⟩
    ·exact .inl h
    ·exact .inr ⟨w,QF _ c,d⟩
  ·split at h
   ·have b:=Ql.1 h;rcases b with rfl|h
    ·exact .inl rfl
    ·exact .inr ⟨z,QF _ h,rfl⟩
   ·have b:=Ql.1 h;rcases b with rfl|h
    ·exact .inl rfl
    ·exact .inr ⟨z,h,rfl⟩
theorem zKM(x:StD):∀{L:List StD},SRis L->SRis (putC x L)
 |[],_=>by simp [putC]
 |y::r,h=>by
  rw [SRis,QM] at h;unfold putC;split
  ·rename_i d;refine QM.2 ⟨λz b=>?_,zKM x h.2⟩;have c:=zJk x b;rcases c with e|⟨w,g,l⟩
   ·rw [e];exact d
   ·rw [<-l];exact h.1 w g
  ·rename_i d;split
   ·rename_i e;exact QM.2 ⟨λz b=>by show lessK x.key z.key;rw [<-e];exact h.1 z b,h.2⟩
   ·rename_i e
    have f:lessK x.key y.key:=by
     have c:=zGx x.key y.key;rcases c with h|h|h
     ·exact h
     ·exact absurd h.symm e
     ·exact absurd h d
    refine QM.2 ⟨λz b=>?_,QM.2 h⟩;have c:=Ql.1 b;rcases c with rfl|b
    ·exact f
    ·exact zCk f (h.1 z b)
def LeastOf (l:List StD) (z:StD):Prop:=z∈l/\∀y∈l,y.key=z.key->z.d<=y.d
theorem zF6{a b:StD}(c:a.key=b.key)(e:a.d=b.d):a=b:=by cases a;cases b;simp_all
theorem zKu(x:StD):∀{L:List StD},SRis L->∀{z:StD},z∈putC x L↔LeastOf (x::L) z
 |[],_,z=>by
  simp only [putC,LeastOf,Qc,forall_eq];exact⟨λh=>⟨h,λ_=>by rw [h];exact Vr _⟩,λh=>h.1⟩
 |y::r,h,z=>by
  have t:=h;rw [SRis,QM] at h;have F:=zKu x h.2 (z:=z);unfold putC;split
  ·rename_i v;have o:x.key≠y.key:=λe=>zAS v e.symm;rw [Ql,F];unfold LeastOf;constructor
   ·rintro(rfl|⟨f,g⟩)
    ·refine⟨by simp,λw c e=>?_⟩;have b:=Ql.1 c;rcases b with rfl|c
     ·exact absurd e o
     ·rw [t.inj c Qs e];exact Vr _
    ·refine⟨by rcases Ql.1 f with f|f <;> simp [f],λw c e=>?_⟩;have b:=Ql.1 c;rcases b with rfl|c
     ·exact g w Qs e
     ·have b:=Ql.1 c;rcases b with rfl|c
      ·exfalso;have b:=Ql.1 f;rcases b with rfl|f
       ·exact o e.symm
       ·exact zAS (h.1 z f) e
      ·exact g w (QF _ c) e
   ·rintro⟨f,g⟩;have b:=Ql.1 f;rcases b with rfl|f
    ·exact .inr ⟨Qs,λw c e=>g w (by rcases Ql.1 c with h|h <;> simp [h]) e⟩
    ·have b:=Ql.1 f;rcases b with rfl|f
     ·exact .inl rfl
     ·exact .inr ⟨QF _ f,λw c e=>g w (by rcases Ql.1 c with h|h <;> simp [h]) e⟩
  ·rename_i v;split
   ·rename_i e;rw [Ql];unfold LeastOf;constructor
    ·rintro(rfl|f)
     ·refine⟨?_,λw c l=>?_⟩
      ·have b:=Int.le_total x.d y.d;rcases b with A|A
       ·rw [Int.min_eq_left A];exact Qs
       ·rw [Yk A,<-e];exact QF _ Qs
      ·have b:=Ql.1 c;rcases b with rfl|c
       ·exact Int.min_le_left _ _
       ·rw [t.inj c Qs (l.trans e.symm)];exact Int.min_le_right _ _
     ·refine⟨by simp [f],λw c l=>?_⟩;have b:=Ql.1 c;rcases b with rfl|c
      ·exact absurd (e.trans l) (zAS (h.1 z f))
      ·rw [t.inj c (QF _ f) l];exact Vr _
    ·rintro⟨f,g⟩;have b:=Ql.1 f;rcases b with rfl|f
     ·left;have:=g y (by simp) e;exact zF6 rfl (Int.min_eq_left this).symm
     ·have b:=Ql.1 f;rcases b with rfl|f
      ·left;have:=g x (by simp) e.symm;exact zF6 e (Yk this).symm
      ·exact .inr f
   ·rename_i e;rw [Ql];unfold LeastOf
    have E:lessK x.key y.key:=by
     have b:=zGx x.key y.key;rcases b with h|h|h
     ·exact h
     ·exact absurd h.symm e
     ·exact absurd h v
    constructor
    ·intro p;refine⟨Ql.2 p,λw c l=>?_⟩
     have q:∀u∈y::r,lessK x.key u.key:=λu C=>by
      have b:=Ql.1 C;rcases b with rfl|C
      ·exact E
      ·exact zCk E (h.1 u C)
     rcases p with rfl|p
     ·have b:=Ql.1 c;rcases b with rfl|c
      ·exact Vr _
      ·exact absurd l.symm (zAS (q w c))
     ·have b:=Ql.1 c;rcases b with rfl|c
      ·exact absurd l (zAS (q z p))
      ·rw [t.inj c p l];exact Vr _
    ·exact λh=>Ql.1 h.1
theorem zKq:∀(s:List StD) (k:KeyD),(∃y∈s,y.key=k)->∃w,w∈s/\w.key=k/\∀u∈s,u.key=k->w.d<=u.d
 |[],_,⟨_,h,_⟩=>nomatch h
 |a::s,k,h=>by
  by_cases f:∃y∈s,y.key=k
  ·have c:=zKq s k f;obtain⟨w,p,q,a3⟩:=c;by_cases g:a.key=k/\a.d<=w.d
   ·refine⟨a,Qs,g.1,λu b l=>?_⟩;have c:=Ql.1 b;rcases c with rfl|b
    ·exact Vr _
    ·exact Int.le_trans g.2 (a3 u b l)
   ·refine⟨w,QF _ p,q,λu b l=>?_⟩;have c:=Ql.1 b;rcases c with rfl|b
    ·have:¬u.d<=w.d:=λh=>g ⟨l,h⟩;omega
    ·exact a3 u b l
  ·obtain⟨y,o,e⟩:=h;have c:=Ql.1 o;rcases c with rfl|o
   ·refine⟨y,Qs,e,λu b l=>?_⟩;have c:=Ql.1 b;rcases c with rfl|b
    ·exact Vr _
    ·exact absurd ⟨u,b,l⟩ f
   ·exact absurd ⟨y,o,e⟩ f
theorem zBd(l:List StD):SRis (combL l)/\∀z,z∈combL l↔LeastOf l z:=by
 have p:∀(m l L:List StD),SRis L->(∀z,z∈L↔LeastOf l z)->SRis (m.foldl (λL x=>putC x L) L)/\∀z,z∈m.foldl (λL x=>putC x L) L↔LeastOf (l++m) z:=by
  intro m
  induction m with
  |nil=>intro l L o g;simpa using ⟨o,g⟩
  |cons x r t =>
   intro l L o g;rw [JY]
   have:=t (l++[x]) (putC x L) (zKM x o) λz=>by
    rw [zKu x o];unfold LeastOf;constructor
    ·rintro⟨c,h⟩
     have v:z∈l++[x]:=by
      have d:=Ql.1 c;rcases d with rfl|c
      ·simp
      ·exact QN _ ((g z).1 c).1
     refine⟨v,λy f e=>?_⟩;have d:=Qf.1 f;rcases d with b|b
     ·have d:=zKq l y.key ⟨y,b,rfl⟩;obtain⟨w,A,q,a3⟩:=d;have C:=(g w).2 ⟨A,λu E F=>a3 u E (F.trans q)⟩;exact Int.le_trans (h w (QF _ C) (q.trans e)) (a3 y b rfl)
     ·rw [Qc] at b;subst b;exact h y Qs e
    ·rintro⟨c,h⟩;refine⟨?_,λy f e=>?_⟩
     ·have d:=Qf.1 c;rcases d with c|c
      ·exact QF _ ((g z).2 ⟨c,λy f e=>h y (QN _ f) e⟩)
      ·rw [Qc] at c;subst c;exact Qs
     ·have d:=Ql.1 f;rcases d with rfl|f
      ·exact h y (by simp) e
      ·exact h y (QN _ ((g y).1 f).1) e
   simpa using this
 have:=p l [] [] .nil λz=>by simp [LeastOf]
 simpa [combL] using this
theorem zEj{l out:List StD}(h:SRis out)(b:∀z,z∈out↔LeastOf l z):out=combL l:=
 h.uniq (zBd l).1 λz=>(b z).trans ((zBd l).2 z).symm
theorem zNf{l:List StD}(h:SRis l):combL l=l:=
 ((zEj h λz=>⟨λb=>⟨b,λy c e=>by rw [h.inj c b e];exact Vr _⟩,λb=>b.1⟩)).symm
theorem zNe{l m:List StD}(h:l.Perm m):combL l=combL m:=
 zEj (zBd l).1 λz=>((zBd l).2 z).trans (by unfold LeastOf;simp only [h.mem_iff])
def keyIn (S:List StD) (k:KeyD):Bool:=S.any λy=>decide (y.key=k)
theorem zBW{S:List StD}{k:KeyD}:keyIn S k=true↔∃y∈S,y.key=k:=by simp [keyIn]
def freshL (S M:List StD):List StD:=(combL M).filter λx=>!keyIn S x.key
theorem zHE(S M:List StD):SRis (freshL S M):=(zBd M).1.filter _
theorem zDw{S M:List StD}{z:StD}:z∈freshL S M↔LeastOf M z/\∀y∈S,y.key≠z.key:=by
 unfold freshL;rw [QC,(zBd M).2];simp [keyIn]
def nextL (g:GrD) (q:QyD) (x:StD):List StD:=
 if q.kind=3/\q.rad<=x.d then [] else (nbL g x.key.dir x.key.v.toNat).map λv:Nat=>⟨⟨x.key.slot,x.key.dir,v⟩,x.d+1⟩
def stepL (g:GrD) (q:QyD) (S M:List StD):List StD×List StD:=
 (insAll (freshL S M) S,freshL (insAll (freshL S M) S) ((freshL S M).flatMap (nextL g q)))
section
variable {g:GrD} {q:QyD} {slot:Int}
theorem zN1(i:Nat):freshL (sts g q slot i) (mls g q slot i)=mls g q slot i:=by
 unfold freshL;rw [zNf (zIs i),JH];intro x b;simp only [VJ,<-Vy,zBW];rintro⟨y,c,e⟩;have d:=zBy.1 c;obtain⟨j,h,f⟩:=d;have:=zFu f b e;omega
theorem nb_lt(d:GrOk g){dir:Int}{u v:Nat}(h:v∈nbL g dir u):v<g.n:=by
 unfold nbL at h;split at h
 ·have b:=Qq.1 h;obtain⟨e,c,rfl⟩:=b;exact(d.ed e (QC.1 c).1).1
 ·have b:=Qq.1 h;obtain⟨e,c,rfl⟩:=b;exact(d.ed e (QC.1 c).1).2
theorem zG9{z:StD}:z∈(mls g q slot i).flatMap (nextL g q)↔z.key.slot=slot/\z.d=(i:Int)+1/\(z.key.dir=0\/z.key.dir=1)/\goesOn q i=true/\∃u∈lv g q z.key.dir i,∃v:Nat,z.key.v=v/\v∈nbL g z.key.dir u:=by
 rw [VP];constructor
 ·rintro⟨x,t,c⟩;have f:=zA5.1 t;obtain⟨h,e,l,u,o,p⟩:=f;unfold nextL at c;split at c
  ·cases c
  ·rename_i b;have f:=Qq.1 c;obtain⟨v,r,rfl⟩:=f;refine⟨h,by show x.d+1=_;rw [e],l,?_,u,p,v,rfl,?_⟩
   ·rw [e] at b;simp only [goesOn,VJ,<-Vy,Qz,decide_eq_true_eq];exact b
   ·rw [o] at r;simpa using r
 ·rintro⟨h,e,l,o,u,p,v,w,y⟩;refine⟨⟨⟨slot,z.key.dir,u⟩,i⟩,zA5.2 ⟨rfl,rfl,l,u,rfl,p⟩,?_⟩;unfold nextL;rw [if_neg (by rintro⟨A,C⟩;simp [goesOn,A,C] at o)];refine Qq.2 ⟨v,by simpa using y,zF6 (zF3 h.symm rfl w.symm) ?_⟩;exact e.symm
theorem zLl(x:GrOk g)(i:Nat):stepL g q (sts g q slot i) (mls g q slot i)=(sts g q slot (i+1),mls g q slot (i+1)):=by
 unfold stepL;rw [zN1];refine Prod.ext rfl ?_;refine(zHE _ _).uniq (zIs _) λz=>?_;have e:insAll (mls g q slot i) (sts g q slot i)=sts g q slot (i+1):=rfl;rw [e,zDw];constructor
 ·rintro⟨⟨A,_⟩,C⟩;have b:=zG9.1 A;obtain⟨c,d,a3,f,u,h,v,p,r⟩:=b;refine zA5.2 ⟨c,by rw [d];simp,a3,v,p,zBH.2 ⟨f,nb_lt x r,λE=>?_,u,h,r⟩⟩;have b:=mem_sn.1 E;obtain⟨j,t,l⟩:=b;exact C ⟨⟨slot,z.key.dir,v⟩,j⟩ (zBy.2 ⟨j,t,zA5.2 ⟨rfl,rfl,a3,v,rfl,l⟩⟩) (zF3 c.symm rfl p.symm)
 ·intro w;have b:=zA5.1 w;obtain⟨c,d,a3,v,f,h⟩:=b;have b:=zBH.1 h;obtain⟨F,I,J,u,G,H⟩:=b;refine⟨⟨zG9.2 ⟨c,by rw [d];simp,a3,F,u,G,v,f,H⟩,λy o _=>?_⟩,λy o e=>?_⟩
  ·have:=(zG9.1 o).2.1;rw [d,this];simp
  ·have b:=zBy.1 o;obtain⟨j,t,l⟩:=b;have:=zFu l w e;omega
end
section
variable {t:TypeId} {v:Value} {α:Type} [Inhabited α] {lt:α->α->Bool} {St:List α->World->Prop} {B0:Nat} {es:List TypeId}
theorem zMs{l:List α}{y:α}{p:Nat}(h:p<l.length):atL (l++[y]) p=atL l p:=by
 unfold atL;simp [VL h]
theorem zJ7{l:List α}{p:Nat}(h:p<l.length - 1):atL l.dropLast p=atL l p:=by
 unfold atL;simp only [Qk,List.getElem?_dropLast];rw [if_pos h]
theorem HeapN.congr{l l':List α}(h:HeapN lt l n)(e:∀p,p<n->atL l' p=atL l p):HeapN lt l' n:=λc c0 b=>by
 rw [e c b,e _ (by omega)];exact h c c0 b
theorem zPO(H:HeapI PP t v lt St B0 es){l:List α}{y:α}{x:Value}{w:World}(G:St l w)(I:l.length<=99999)(o:HeapN lt l l.length)
  (b : InvS PP t v "Push" [x] w λ_ w' => St (l ++ [y]) w' /\ FrT B0 es w w') :
  Sp PP 387 #[.iface t v,x] w λ_ w'=>(∃l':List α,l'.Perm (l++[y])/\St l' w'/\HeapN lt l' l'.length)/\FrT B0 es w w':=by
 refine eN ?_;refine b.out rfl rfl rfl rfl ?_;rintro _ w1 ⟨p,q⟩;refine(H.len _ w1 p).out rfl rfl rfl rfl ?_;rintro _ J ⟨rfl,r,z⟩;have d:(l++[y]).length=l.length+1:=by simp
 refine rarE (y:=((l.length:Nat):Int)) (by omega) (by omega) (rcall (up_sp H (n:=l.length+1) (j:=l.length) r (by omega) (by omega) ⟨λc c0 f g A=>?_,λc c0 f g A=>by omega⟩ (λc c0 f g=>by omega)) ?_)
 ·rw [zMs (by omega),zMs (by omega)];exact o c c0 (by omega)
 rintro _ K ⟨⟨l',h,_,C,E⟩,F⟩;have e:=h.length_eq;exact⟨⟨l',h,C,by rw [e,d];exact E⟩,(q.trans z).trans F⟩
theorem Pop_sp(H : HeapI PP t v lt St B0 es){RX : α -> Value -> Prop}(r : ∀ l w, St l w -> l ≠ [] -> InvS PP t v "Pop" [] w λx w' => RX (atL l (l.length - 1)) x /\ St l.dropLast w' /\ FrT B0 es w w'){l : List α}{w : World}(F : St l w)(C : l ≠ [])(L : HeapN lt l l.length) :
  Sp PP 423 #[.iface t v] w λx w'=>(RX (atL l 0) x/\∃l':List α,(atL l 0::l').Perm l/\St l' w'/\HeapN lt l' l'.length)/\FrT B0 es w w':=by
 have M:=H.size l w F;have G:0<l.length:=JI.2 C;refine eN ?_;refine(H.len _ w F).out rfl rfl rfl rfl ?_;rintro _ w1 ⟨rfl,O,Q⟩;have S:∃n,l.length=n+1:=⟨l.length - 1,by omega⟩;obtain⟨n,T⟩:=S;refine rarE (y:=((n:Nat):Int)) (by omega) (by omega) ?_;refine(H.swap l w1 0 n O (by omega) (by omega)).out rfl rfl rfl rfl ?_;rintro _ w2 ⟨U,V⟩;have o:=λp=>atL_sw (l:=l) (i:=0) (j:=n) (p:=p) (by omega) (by omega)
 have I:HeapX lt (swL l 0 n) n 0:=⟨λc c0 W z A=>by
  rw [o c,o,if_neg (by omega),if_neg z,if_neg (by omega),if_neg A];exact L c c0 (by omega),λc c0 W z A=>by omega⟩
 refine rcall (zP4 H (n:=n) (i0:=0) U (by omega) (by rw [zD8];omega) I) ?_;rintro _ X ⟨⟨b,l',rfl,J,Y,Z,z,A⟩,f3⟩;have d:l'.length=n+1:=by rw [J.length_eq,zD8,T]
 have E:HeapN lt l' n:=by
  cases b with
  |true=>exact z rfl
  |false=>obtain⟨rfl,hb⟩:=A rfl;exact I.full (λh=>by omega) hb
 have f:atL l' (l'.length - 1)=atL l 0:=by
  rw [d,Nat.add_sub_cancel,Y n (Qe _),o,if_pos rfl]
 refine(r l' X Z (by intro e;rw [e] at d;simp at d)).out rfl rfl rfl rfl ?_;rintro x w4 ⟨K,S4,f4⟩;rw [f] at K
 have q:(atL l 0::l'.dropLast).Perm l:=by
  have g:l'≠[]:=by intro e;rw [e] at d;simp at d
  have e1:l'.dropLast++[atL l 0]=l':=by
   rw [<-f,zBx (by omega),<-List.getLast_eq_getElem g];exact Xc g
  have:=(VE (atL l 0) l'.dropLast).symm;rw [e1] at this;exact this.trans (J.trans (zDg (by omega) (by omega)))
 refine⟨⟨K,l'.dropLast,q,S4,?_⟩,((Q.trans V).trans f3).trans f4⟩;rw [List.length_dropLast,d,Nat.add_sub_cancel];exact E.congr λp a0=>zJ7 (by omega)
end
def hlt (a b:HitD):Bool:=decide (a.d<b.d\/a.d=b.d/\a.v<b.v)
def toI (a b:HitD):Int:=if hlt a b then -1 else if hlt b a then 1 else 0
theorem toI_lt(a b:HitD):toI a b<0↔hlt a b=true:=by
 unfold toI;split
 ·rename_i h;simp [h]
 ·rename_i h;split <;> simp [h]
theorem zEy{b:Bool}{w:World}:Sp PP 425 #[.bool b] w λv w'=>v=.int .i64 (if b then -1 else 1)/\w'=w:=by
 refine eN ?_;cases b
 ·exact⟨rfl,rfl⟩
 ·exact⟨rfl,rfl⟩
theorem zI8{a b:HitD}{w:World}:Sp PP 392 #[agg a,agg b] w λv w'=>v=.int .i64 (toI a b)/\Gw w w':=by
 refine eN ?_;refine rbx λp w1 n1 f=>rbx λq r n2 g=>?_;have d:=n1.gw.trans n2.gw;refine rX f rfl (rX g rfl ?_);refine ite (λh=>?_) (λh=>?_)
 ·refine rX f rfl (rX g rfl ?_);refine ite (λc=>?_) (λc=>?_)
  ·refine rcall zEy ?_;rintro v l ⟨rfl,rfl⟩;have e:toI a b = -1:=by unfold toI hlt;rw [if_pos (by simp [c])]
   exact⟨by rw [e];rfl,d⟩
  ·refine rcall zEy ?_;rintro v l ⟨rfl,rfl⟩;have e:toI a b=1:=by unfold toI hlt;rw [if_neg (by simp;omega),if_pos (by simp;omega)]
   exact⟨by rw [e];rfl,d⟩
 ·have h:=Q2.1 h;refine rX f rfl (rX g rfl ?_);refine ite (λc=>?_) (λc=>?_)
  ·refine rX f rfl (rX g rfl ?_);refine ite (λo=>?_) (λo=>?_)
   ·refine rcall zEy ?_;rintro v l ⟨rfl,rfl⟩;have e:toI a b = -1:=by unfold toI hlt;rw [if_pos (by simp;omega)]
    exact⟨by rw [e];rfl,d⟩
   ·refine rcall zEy ?_;rintro v l ⟨rfl,rfl⟩;have e:toI a b=1:=by unfold toI hlt;rw [if_neg (by simp;omega),if_pos (by simp;omega)]
    exact⟨by rw [e];rfl,d⟩
  ·have c:=Q2.1 c;have e:toI a b=0:=by unfold toI hlt;rw [if_neg (by simp;omega),if_neg (by simp;omega)]
   exact⟨by rw [e];rfl,d⟩
structure QAt (B:Nat) (w:World) (b:Nat) (a:Option Addr) (c:Nat) (most:Int) (l:List HitD):Prop where
 lo:B<=b
 cell:Bk w b [.slice a l.length c,.int .i64 most] 416
 row:Own B 446 w (.slice a l.length c) l
 size:l.length<=100000
abbrev pE:List TypeId:=[416,446]
theorem QAt.up{w:World}[L:Le w w']{b:Nat}{c:Nat}{most:Int}{l:List HitD}(h:QAt B w b a c most l):QAt B w' b a c most l:=⟨h.lo,h.cell.mv,h.row.up,h.size⟩
theorem sl_one(a:Option Addr)(n c:Nat):∀u∈[Value.slice a n c],u.oneCell'=true:=by intro u b;simp at b;subst b;rfl
theorem zGz{b c:Nat}{most:Int}{l:List HitD}{w:World}(Q:QAt B w b a c most l):Sp PP 422 #[.pointer (some ⟨b,0,none⟩)] w λv w'=>v=.int .i64 (l.length:Nat)/\w'=w:=by
 refine eN ?_;refine rX Q.cell rfl ?_;exact⟨rfl,rfl⟩
theorem zKA{b c:Nat}{most:Int}{l:List HitD}{w:World}(Q:QAt B w b a c most l)(hi:i<l.length)(f:j<l.length):
  Sp PP 470 #[.pointer (some ⟨b,0,none⟩),.int .i64 i,.int .i64 j] w λv w'=>v=.bool (hlt (atL l j) (atL l i))/\Stp w w':=by
 refine eN ?_;refine dQ 17 λd r=>tX Q.cell rfl nf (tix (Q.row.sl.up (w':=d)) (x:=l[j]) (by simp) λt y g _=>tloadA g rfl nf (tX Q.cell rfl nf (tix (Q.row.sl.up (w':=d)) (x:=l[i]) (by simp) λz A o _=>tloadA o rfl nf (rcall (zI8 (a:=l[j]) (b:=l[i])) ?_))));rintro v p ⟨rfl,e⟩;have C:Stp d p:=⟨e.ext⟩;refine⟨e.ext,?_⟩;rw [zBx hi,zBx f];refine ite (λh=>?_) (λh=>?_)
 ·rw [(toI_lt _ _).1 h];exact⟨rfl,stp⟩
 ·have:hlt l[j] l[i]=false:=by
   cases q:hlt l[j] l[i] with
   |false=>rfl
   |true=>exact absurd ((toI_lt _ _).2 q) h
  rw [this];exact⟨rfl,stp⟩
theorem zKC{b c:Nat}{most:Int}{l:List HitD}{w:World}(Q:QAt B w b a c most l)(hi:i<l.length)(h:j<l.length):
  Sp PP 473 #[.pointer (some ⟨b,0,none⟩),.int .i64 i,.int .i64 j] w λ_ w'=>QAt B w' b a c most (swL l i j)/\FrT B pE w w':=by
 refine eN ?_;have C:=Q.cell;have O:=Q.row;refine dT (ownD B (.slice a l.length c)) (oL [0,1,2,3,4,5,6,7,8,9,10,11,12,13,14,15,17,18,19,20,21,22] (.duo 16 (.lone 23 (oL [24,25,26,27] .nil)) 23 (.lone 16 (oL [24,25,26,27] .nil)))) λd H=>tX C rfl (C.notOwn O) (tX C rfl (C.notOwn O) (tX C rfl (C.notOwn O) (tix (O.sl.up (w':=d)) (x:=l[j]) (by simp) λI J t _=>tX C rfl (C.notOwn O) (tix (O.sl.up (w':=d)) (x:=l[i]) (by simp) λK L v _=>?_))))
 have fin:∀f,Own B 446 f (.slice a l.length c) ((l.set i l[j]).set j l[i])->Bk f b [.slice a l.length c,.int .i64 most] 416->FrT B pE d f->QAt B f b a c most (swL l i j)/\FrT B pE w f:=λf y z E=>by
  refine⟨⟨Q.lo,by rw [zD8];exact z,?_,by rw [zD8];exact Q.size⟩,(FrT.ext Le.e).trans E⟩;rw [zD8];unfold swL;rw [zBx hi,zBx h];exact y
 refine⟨rloadA t rfl ⟨Fr.refl _ _,rloadA v rfl ⟨Fr.refl _ _,?_⟩⟩,rloadA v rfl ⟨Fr.refl _ _,rloadA t rfl ⟨Fr.refl _ _,?_⟩⟩⟩
 all_goals
  refine tixO rfl (O.up (w':=d)) (x:=l[i]) (by simp) λM o _ A=>rstO' rfl l[j] (O.up (w':=d)) o hi rfl λS g p _=>⟨p,?_⟩;refine tixO rfl g (x:=(l.set i l[j])[j]'(by simpa using h)) (by simp) λT q _ A=>rstO' rfl l[i] g q (by simpa using h) rfl λF G r _=>⟨r,?_⟩;exact fin F G (((C.mv (w:=d)).fro (O.up (w':=d)) p).fro g r) (((O.up (w':=d)).wrote p (Qe _) (by decide)).trans (g.wrote r (Qe _) (by decide)))
theorem zKB{b c:Nat}{most:Int}{l:List HitD}{x:HitD}{w:World}(Q:QAt B w b a c most l)(Y:l.length<=99999):
  Sp PP 472 #[.pointer (some ⟨b,0,none⟩),.iface 446 (agg x)] w λ_ w'=>(∃a c,QAt B w' b a c most (l++[x]))/\FrT B pE w w':=by
 have Z:=Q.cell.lt;refine eN ?_;refine rta (ral λK w1 n1 z=>rE z x λp A C _=>?_);have s2:Stp w p:=n1.st C;have E:=Q.cell.mv (w:=p);have L:=Q.row.up (w':=p);clear z C;have q:b≠K:=by rintro rfl;have M:=E.h;have F:=A.h;rw [M] at F;cases F
 refine dT (λi=>i=b\/ownD B (.slice a l.length c) i) (oL [0,1,2,3,5] (.duo 4 (oL [6,7,8,9,10] .nil) 6 (.lone 4 (oL [7,8,9,10] .nil)))) λg e3=>tG A x (λh=>h.elim (λh=>q h.symm) (λh=>by have:=Q.row.wr h;have:=n1.lo (u:=w);omega)) ?_;have o:=E.mv (w:=g);have r:=L.up (w':=g);have O:B<=g.heap.size:=by have:=o.lt;have:=Q.lo;omega
 have S:FrT B pE w g:=FrT.ext Le.e;have T:=Q.size;refine⟨rX o rfl ⟨Fr.refl _ _,bS x λU d f _ G=>⟨Fr.fr f.e,?_⟩⟩,bS x λU d f _ G=>⟨Fr.fr f.e,rX o rfl ⟨Fr.refl _ _,?_⟩⟩⟩
 all_goals
  refine rappB ⟨rfl,rfl⟩ (r.up (w':=d)) G (by have:=f.e.size;omega) (by simp;omega) λv7 u7 H t=>⟨t.mono λi _ hi=>.inr hi,?_⟩;have v:=(o.mv (w:=d)).fro (r.up (w':=d)) t;have V:=(r.up (w':=d)).wrote t (Qe _) (show 446∈pE by decide);have W:=H.shape;obtain⟨I,J,rfl⟩:=W;refine rS v [.slice I (l++[x]).length J] (sl_one _ _ _) λu8 X y _=>⟨y.mono λi _ hi=>.inl hi,?_⟩;exact⟨⟨I,J,Q.lo,X,H.frc y v,by simp;omega⟩,((S.trans (FrT.ext f.e)).trans V).trans (v.wrote y Q.lo (by decide))⟩
theorem zLN{b c:Nat}{most:Int}{l:List HitD}{w:World}(Q:QAt B w b a c most l)(t:l≠[]):
  Sp PP 471 #[.pointer (some ⟨b,0,none⟩)] w λv w'=>v=.iface 446 (agg (atL l (l.length - 1)))/\QAt B w' b a c most l.dropLast/\FrT B pE w w':=by
 have I:=JI.2 t;have U:=Q.size;have hi:l.length - 1<l.length:=by omega
 refine eN ?_;have C:=Q.cell;have O:=Q.row;rw [zBx hi];refine dD (λi=>w.heap.size<=i) (upF 14 0) λV e1=>?_;have hb:=C.lt;refine tX C rfl (by omega) (tX C rfl (by omega) (rarE (y:=((l.length - 1:Nat):Int)) (by omega) (by omega) ?_));have o:=O.lt t;obtain⟨g0,z,_,J⟩:=o;refine tix (O.sl.up (w':=V)) (x:=l[l.length - 1]) (by simp) λb4 o4 W p=>tloadA W rfl (by rw [z] at p;cases p;omega) (ral λX u2 A K=>⟨A.e.fr,?_⟩);refine rE K (l[l.length - 1]) λE L f _=>?_;have s3:Stp w E:=A.st f;refine⟨f.mono λi _ hi=>by subst hi;exact A.lo,?_⟩;clear K f;have M:=C.mv (w:=E);have S:=O.up (w':=E);have F:b≠X:=by rintro rfl;have Y:=M.h;have T:=L.h;rw [Y] at T;cases T
 have q:=S.cut (m:=l.length - 1) (by omega) t;obtain⟨Z,ga,G⟩:=q;subst G;have a0:l.length<=c:=by obtain⟨_,_,hv,hc,_⟩:=S.sl;cases hv;exact hc
 have H:l.dropLast=l.take (l.length - 1):=XO;have d:l.dropLast.length=l.length - 1:=by simp
 refine dT (λi=>i=b) (oL [0,1,2,3,5,6,7] (.duo 4 (.lone 8 (oL [9,10,11,12,13,14] .nil)) 8 (.one 9 (.one 10 (.lone 4 (oL [11,12,13,14] .nil)))))) λr e4=>?_;have g:=M.mv (w:=r);have F4:FrT B pE w r:=FrT.ext Le.e;refine⟨?_,?_⟩
 all_goals
  refine rX g rfl ⟨Fr.refl _ _,?_⟩
  first
  |refine rarE (y:=((l.length - 1:Nat):Int)) (by omega) (by omega) ?_
   refine rX g rfl ⟨Fr.refl _ _,?_⟩
  |refine rX g rfl ⟨Fr.refl _ _,?_⟩
   refine rarE (y:=((l.length - 1:Nat):Int)) (by omega) (by omega) ?_
  refine tslP (m:=l.length - 1) (by omega) ?_;refine rS g [.slice (some ⟨ga,0,none⟩) (l.length - 1) c] (sl_one _ _ _) λu5 C5 f _=>⟨f,?_⟩;have B6:=(L.mv (w:=r)).fr f (Jq F);refine rG B6 (l[l.length - 1]) (rmki ?_);refine⟨rfl,⟨Q.lo,by rw [d];exact C5,?_,by omega⟩,F4.trans (g.wrote f Q.lo (by decide))⟩;rw [d,H];exact(Z.up (w':=r)).frc f g
def hgt (x y:HitD):Bool:=hlt y x
theorem zDV(a b:HitD):hlt a b=true↔a.d<b.d\/a.d=b.d/\a.v<b.v:=by unfold hlt;simp
theorem hlt_ff(a b:HitD):hlt a b=false↔¬(a.d<b.d\/a.d=b.d/\a.v<b.v):=by unfold hlt;simp
theorem zME:Ord hgt:=⟨λx=>by unfold hgt;rw [hlt_ff];omega,λx y z h k=>by unfold hgt at *;rw [zDV] at *;omega,λx y z h k=>by unfold hgt at *;rw [hlt_ff] at *;omega⟩
def QSt (B b:Nat) (most:Int) (l:List HitD) (w:World):Prop:=∃a c,QAt B w b a c most l
theorem QSt.up{b:Nat}{most:Int}{l:List HitD}{w:World}[Le w w'](h:QSt B b most l w):QSt B b most l w':=by obtain⟨a,c,h⟩:=h;exact⟨a,c,h.up⟩
theorem zJi(B b:Nat)(most:Int):HeapI PP 445 (.pointer (some ⟨b,0,none⟩)) hgt (QSt B b most) B pE where
 ord:=zME
 size:=λ_ _ ⟨_,_,h⟩=>h.size
 len:=λ_ _ ⟨a,c,h⟩=>.p ((zGz h).mono λ_ _ ⟨d,f⟩=>by subst f;exact⟨d,⟨a,c,h⟩,FrT.refl _ _ _⟩)
 less:=λ_ _ _ _ ⟨a,c,h⟩ hi g=>.p ((zKA h hi g).mono λ_ _ ⟨d,f⟩=>⟨d,⟨a,c,h.up⟩,FrT.ext f.e⟩)
 swap:=λ_ _ _ _ ⟨a,c,h⟩ hi g=>.p ((zKC h hi g).mono λ_ _ ⟨d,f⟩=>⟨⟨a,c,d⟩,f⟩)
theorem zPh(B b : Nat)(most : Int) : ∀ l w, QSt B b most l w -> l ≠ [] -> InvS PP 445 (.pointer (some ⟨b, 0, none⟩)) "Pop" [] w λx w' => x = .iface 446 (agg (atL l (l.length - 1))) /\ QSt B b most l.dropLast w' /\ FrT B pE w w' :=
 λ_ _ ⟨a,c,h⟩ d=>.p ((zLN h d).mono λ_ _ ⟨e,f,g⟩=>⟨e,⟨a,c,f⟩,g⟩)
theorem zOi{b:Nat}{most : Int}{l : List HitD}{x : HitD}{w : World}(h : QSt B b most l w)(d : l.length <= 99999) : InvS PP 445 (.pointer (some ⟨b, 0, none⟩)) "Push" [.iface 446 (agg x)] w λ_ w' => QSt B b most (l ++ [x]) w' /\ FrT B pE w w' := by
 obtain⟨a,c,h⟩:=h;exact .p ((zKB (x:=x) h d).mono λ_ _ ⟨e,f⟩=>⟨e,f⟩)
abbrev SrtH (l:List HitD):Prop:=l.Pairwise (λa b=>hlt b a=false)
theorem zMF{a b:HitD}(h:hlt a b=false)(k:hlt b a=false):a=b:=by
 rw [hlt_ff] at h k;cases a;cases b;simp at h k ⊢;omega
theorem hlt_tr{a b c:HitD}(h:hlt b a=false)(k:hlt c b=false):hlt c a=false:=by rw [hlt_ff] at *;omega
theorem SrtH.uniq:∀{l m:List HitD},SrtH l->SrtH m->l.Perm m->l=m
 |[],m,_,_,p=>p.nil_eq
 |a::l,[],_,_,p=>by have:=p.length_eq;simp at this
 |a::l,b::m,e,f,p=>by
  rw [SrtH,QM] at e f
  have g:a=b:=by
   have c:a∈b::m:=p.mem_iff.1 (Qs ..);have d:b∈a::l:=p.mem_iff.2 (Qs ..);have h:=Ql.1 c;rcases h with c|c
   ·exact c
   ·have h:=Ql.1 d;rcases h with d|d
    ·exact d.symm
    ·exact zMF (f.1 a c) (e.1 b d)
  subst g;rw [SrtH.uniq e.2 f.2 ((List.perm_cons _).1 p)]
def insH (x:HitD):List HitD->List HitD
 |[]=>[x]
 |y::r=>if hlt x y then x::y::r else y::insH x r
theorem zCv(x:HitD):∀l,(insH x l).Perm (x::l)
 |[]=>.refl _
 |y::r=>by
  unfold insH;split
  ·exact .refl _
  ·exact((zCv x r).cons y).trans (.swap ..)
theorem zEt(x:HitD)(l:List HitD):(insH x l).length=l.length+1:=by rw [(zCv x l).length_eq];rfl
theorem zG4(x:HitD):∀{l},SrtH l->SrtH (insH x l)
 |[],_=>by simp [insH]
 |y::r,h=>by
  rw [SrtH,QM] at h;unfold insH;split
  ·rename_i b;have d:hlt y x=false:=by rw [hlt_ff];rw [zDV] at b;omega
   refine QM.2 ⟨λz c=>?_,QM.2 h⟩;have e:=Ql.1 c;rcases e with rfl|c
   ·exact d
   ·exact hlt_tr d (h.1 z c)
  ·rename_i b;refine QM.2 ⟨λz c=>?_,zG4 x h.2⟩;have e:=Ql.1 ((zCv x r).mem_iff.1 c);rcases e with rfl|c
   ·simpa using b
   ·exact h.1 z c
theorem SrtH.last{x:HitD}{l L:List HitD}(h:SrtH L)(p:(x::l).Perm L)(f:∀y∈L,hlt x y=false):L.getLast? = some x/\l.Perm L.dropLast:=by
 have b:L≠[]:=by rintro rfl;have:=p.length_eq;simp at this
 have d:=Xc b
 have e:x=L.getLast b:=by
  have c:x∈L.dropLast++[L.getLast b]:=by rw [d];exact p.mem_iff.1 (Qs ..)
  have g:=Qf.1 c;rcases g with c|c
  ·rw [<-d] at h;have o:=(VK.1 h).2.2 x c _ (Qs ..);exact(zMF o (f _ (List.getLast_mem b))).symm
  ·simpa using c
 refine⟨by rw [e];exact List.getLast?_eq_some_getLast b,?_⟩
 have:(x::l).Perm (x::L.dropLast):=by
  refine p.trans ?_
  conv=>lhs;rw [<-d,<-e]
  exact VE _ _
 exact(List.perm_cons _).1 this
def zH:HitD:=⟨0,0⟩
def putQ (most:Int) (L:List HitD) (x:HitD):List HitD×HitD×Bool:=
 if ((insH x L).length:Int)<=most then (insH x L,zH,false) else ((insH x L).dropLast,(insH x L).getLast?.getD zH,true)
theorem zPk{most:Int}{L:List HitD}{x:HitD}:(putQ most L x).1.length<=L.length+1:=by
 unfold putQ;split
 ·rw [zEt];exact Qe _
 ·rw [List.length_dropLast,zEt];omega
open Go Go.Proofs Go.Shelf
section
variable {α:Type} [Enc α] [Inhabited α]
theorem zHz(l:List α):(Go.Sort.flatK (enc:α->List Value) (Enc.sz α) l.toArray).toList=flat l:=by
 have c:=Enc.pos (α:=α);apply Vl;intro t;rcases QH t (l.length*Enc.sz α) with h|h
 ·have hi:t / Enc.sz α<l.length:=by rw [Nat.div_lt_iff_lt_mul c];exact h
  have b:t % Enc.sz α<Enc.sz α:=Nat.mod_lt _ c;have f:l[t / Enc.sz α]? = some l[t / Enc.sz α]:=by simp [hi]
  have g:=zKi l f
  have o:(enc l[t / Enc.sz α])[t % Enc.sz α]? = (flat l)[t]?:=by
   rw [<-g,Vh,if_pos b,Vz];congr 1;rw [Nat.mul_comm];exact Nat.div_add_mod t (Enc.sz α)
  rw [<-o];have d:t<(Go.Sort.flatK (enc:α->List Value) (Enc.sz α) l.toArray).size:=by simpa using h
  rw [Jj,QT d];have e:=Go.Sort.get_flatK (enc:α->List Value) (Enc.sz α) l.toArray t (by simpa using h);rw [getElem!_pos _ t d] at e;rw [e,getElem!_pos l.toArray (t / Enc.sz α) (by simpa using hi),getElem!_pos _ (t % Enc.sz α) (by rw [Enc.len];exact b)];rw [Qd (by rw [Enc.len];exact b)];simp
 ·rw [Jg (by simpa using h),Jg (by rw [zAl];exact h)]
variable {P:Program} {w:World}
theorem zNs{e:TypeId}{l:List α}{g:Nat}{b:Array Value}(f:w.heap[g]? = some (.cells b e (0,0)))(h:b.toList.take (l.length*Enc.sz α)=flat l):
  Go.Sort.HoldsK (enc:α->List Value) (Enc.sz α) w g 0 l.toArray:=by
 intro j c;have d:j<l.length*Enc.sz α:=by simpa using c
 constructor
 ·rw [cell_of_row w g (0+j) b e (0,0) f,JO];have:(flat l)[j]? = b[j]?:=by rw [<-h,Vh,if_pos d,Jj]
  rw [<-this,<-zHz,Jj,QT c,getElem!_pos _ j c];rfl
 ·simp [World.frozen?,f]
theorem zJI(F b:Array Value)(h:F.size<=b.size):(Go.Sort.putCells id 0 F b).toList.take F.size=F.toList:=by
 apply Vl;intro j;rw [Vh];split
 ·rename_i c;rw [Jj,Jj];unfold Go.Sort.putCells;rw [Array.getElem?_mapIdx,QT (by omega:j<b.size),JD,if_pos ⟨by omega,by omega⟩,QT c,JF,getElem!_pos _ j c];rfl
 ·rename_i c;rw [Jg (by simp;omega)]
theorem zLk{e:TypeId}{c:Nat}{l l':List α}{g:Nat}{os:Array Obj}(h:Own B e w (.slice (some ⟨g,0,none⟩) n c) l)(C:l≠[])(d:l'.length=l.length):
  Own B e (sortWorldK enc (Enc.sz α) w g 0 m l'.toArray os) (.slice (some ⟨g,0,none⟩) n c) l'/\Fr (λi=>i=g) w (sortWorldK enc (Enc.sz α) w g 0 m l'.toArray os):=by
 obtain⟨I,q,r,E,F,t,G,v,f,x⟩:=h.blk C;cases r;have y:=blk_lt t;have A:(Go.Sort.flatK (enc:α->List Value) (Enc.sz α) l'.toArray).size=l'.length*Enc.sz α:=by simp
 have b:∀i,i<w.heap.size->(sortWorldK enc (Enc.sz α) w g 0 m l'.toArray os).heap[i]? = (w.heap.modify g (Go.Sort.onCells (Go.Sort.putCells id 0 (Go.Sort.flatK (enc:α->List Value) (Enc.sz α) l'.toArray))))[i]?:=by
  intro i hi;unfold sortWorldK;rw [XN _ _ (by simpa [Go.Sort.putRowK,Go.Sort.putRow,Go.Sort.mapBlock,Go.Sort.ahead] using hi)];rfl
 constructor
 ·refine .inr ⟨zAl l',.inr ⟨g,c,Go.Sort.putCells id 0 (Go.Sort.flatK (enc:α->List Value) (Enc.sz α) l'.toArray) q,by rw [d,E],F,?_,by rw [d];omega,v,?_,?_⟩⟩
  ·rw [b g y,Jv,if_pos rfl,t];rfl
  ·simpa [Go.Sort.putCells] using f
  ·rw [<-A,zJI _ _ (by rw [A,d,f];exact Ji _ (by omega)),zHz]
 ·refine⟨rfl,rfl,rfl,?_,λi hi z=>?_,λi o p H=>?_⟩
  ·exact size_sortWorldK_c enc (Enc.sz α) w g 0 m l'.toArray os
  ·rw [b i hi,Jv,if_neg (λh=>z h.symm)]
  ·rw [b i (blk_lt p),Jv];by_cases hi:g=i
   ·subst hi;rw [t] at p;cases p;cases H
   ·rw [if_neg hi];exact p
theorem zCZ{ρ:Ren}(L:SlLaysF0.n6 P ρ)(O:Agg P (ρ.t 24) k)(I:Enc.sz α=k)(cf:α->α->Int)(V:Go.Sort.SWO (ltOf cf)){f g:FuncId}(X:ρ.f 6=f)
  (Q:∀(x y:α) (W:World),Sp P g #[agg x,agg y] W λv w'=>v=.int .i64 (cf x y)/\Gw W w'){e:TypeId}{v:Value}{l:List α}(h:Own B e w v l)(d:l.length<4611686018427387904):
  Sp P f #[v,.func (.func g) #[] #[]] w λr w'=>r=.tuple #[]/\∃l',l'.Perm l/\l'.Pairwise (λa b=>cf b a<0->False)/\Own B e w' v l'/\Fr (ownD B v) w w':=by
 subst X I
 have can:callable P (ρ.f 6):=by
  obtain⟨nm,Y,Z⟩:=L.f6;exact⟨_,Z,rfl,Y⟩
 obtain⟨a,c,rfl⟩:=h.shape;refine⟨can,?_⟩;by_cases H:l=[]
 ·subst H;refine(AnyF.slices_SortFunc_none (P:=P) (ρ:=ρ) L a c (.func (.func g) #[] #[]) w).mono ?_;rintro en w' ⟨rfl,rfl⟩;exact⟨rfl,[],.refl _,.nil,h,Fr.refl _ _⟩
 ·obtain⟨g0,a0,rfl,hn,hb,S,a1,a2,a3,p⟩:=h.blk H;have hd:l.toArray.size=l.length:=by simp
  have C:callable P g:=(Q default default w).can
  have E:CmpLays P g #[] (enc:α->List Value) (Enc.sz α) cf g0 0 l.toArray.size w:=by
   intro m os dk _ x y;refine(Q x y _).calls.mono ?_;intro en w' T
   cases en with
   |returned v=>obtain⟨rfl,q,J,F⟩:=T;exact⟨rfl,q,J,F⟩
   |_=>exact T.elim
  have o:=AnyQ.slices_SortFunc L (Enc.sz α) (λw=>(zGU (w:=w) O.h).1) (λw=>(zGU (w:=w) O.h).2) (enc:α->List Value) Enc.len Enc.one cf V g #[] g0 0 c l.toArray w (λargs w=>zAW C w) E (zNs S (hn ▸ p)) (blk_lt S) (by rw [hd];exact d);rw [hd] at o;refine o.mono ?_;rintro en w' ⟨rfl,z,m,os,⟨K,_,G⟩,hs,rfl⟩;have A:z.size=l.length:=by rw [K,hd]
  have e1:z.extract 0 l.length=z:=by rw [<-A];simp
  have e2:l.toArray.extract 0 l.length=l.toArray:=by rw [<-hd];simp
  rw [e1,e2] at G;have F:=zLk (l':=z.toList) (os:=os) (m:=m) h H (by simpa using A);rw [Jz] at F;refine⟨rfl,z.toList,by simpa using G,?_,F.1,F.2.mono λi _ hi=>?_⟩
  ·rw [QX];intro i j hi U M hlt;have:=hs i j (XE _) M (by simpa [A] using U);simp only [ltOf] at this;rw [getElem!_pos z j (by simpa using U),getElem!_pos z i (by simpa using hi)] at this;simp only [Array.getElem_toList] at hlt;simp [hlt] at this
  ·subst hi;exact⟨hb,rfl,h.not0 H⟩
end
end Go.W
namespace Go.Proofs
open Go.Shelf Tryz
def Tryz.sortH_ren:Go.Shelf.Ren:=⟨fun|6=>391|15=>165|14=>424|28=>259|29=>260|20=>436|21=>437|22=>438|23=>439|24=>440|25=>441|26=>442|27=>443|46=>447|47=>330|48=>331|49=>448|50=>449|57=>450|n=>n,fun|22=>412|24=>446|25=>450|3=>3|39=>256|0=>0|53=>334|55=>336|4=>4|46=>328|45=>327|50=>116|5=>5|9=>9|66=>386|70=>390|76=>433|77=>434|n=>n,fun|n=>n⟩
theorem Tryz.sortH:Go.Proofs.SlLaysF0.n6 prog Tryz.sortH_ren:={
 mixed:=by kernel_rfl
 f6:=⟨f391.name,by decide,W.ff func391⟩
 f14:=⟨f424.name,by decide,W.ff func424⟩
 f15:=W.ff func165
 f20:=⟨f436.name,by decide,W.ff func436⟩
 f21:=⟨f437.name,by decide,W.ff func437⟩
 f22:=⟨f438.name,by decide,W.ff func438⟩
 f23:=⟨f439.name,by decide,W.ff func439⟩
 f24:=⟨f440.name,by decide,W.ff func440⟩
 f25:=⟨f441.name,by decide,W.ff func441⟩
 f26:=⟨f442.name,by decide,W.ff func442⟩
 f27:=⟨f443.name,by decide,W.ff func443⟩
 f28:=W.ff func259
 f29:=W.ff func260
 f46:=⟨f447.name,by decide,W.ff func447⟩
 f47:=W.ff func330
 f48:=W.ff func331
 f49:=⟨f448.name,by decide,W.ff func448⟩
 f50:=⟨f449.name,by decide,W.ff func449⟩
 f57:=⟨f450.name,by decide,W.ff func450⟩
 t0:=underlying0
 a0:=isAgg0
 z0:=sizeOf0
 v0:=zeroValue0
 t3:=underlying3
 a3:=isAgg3
 z3:=sizeOf3
 v3:=zeroValue3
 t4:=underlying4
 a4:=isAgg4
 z4:=sizeOf4
 v4:=zeroValue4
 t5:=underlying5
 a5:=isAgg5
 z5:=sizeOf5
 v5:=zeroValue5
 t9:=underlying9
 a9:=isAgg9
 z9:=sizeOf9
 v9:=zeroValue9
 t22:=underlying412
 a22:=isAgg412
 z22:=sizeOf412
 v22:=zeroValue412
 t25:=underlying450
 a25:=isAgg450
 z25:=sizeOf450
 v25:=zeroValue450
 t39:=underlying256
 a39:=isAgg256
 z39:=sizeOf256
 v39:=zeroValue256
 t45:=underlying327
 a45:=isAgg327
 z45:=sizeOf327
 v45:=zeroValue327
 t46:=underlying328
 a46:=isAgg328
 z46:=sizeOf328
 v46:=zeroValue328
 t50:=underlying116
 a50:=isAgg116
 z50:=sizeOf116
 v50:=zeroValue116
 t53:=underlying334
 a53:=isAgg334
 z53:=sizeOf334
 v53:=zeroValue334
 t55:=underlying336
 a55:=isAgg336
 z55:=sizeOf336
 v55:=zeroValue336
 t66:=underlying386
 a66:=isAgg386
 z66:=sizeOf386
 v66:=zeroValue386
 t70:=underlying390
 a70:=isAgg390
 z70:=sizeOf390
 v70:=zeroValue390
 t76:=underlying433
 a76:=isAgg433
 z76:=sizeOf433
 v76:=zeroValue433
 t77:=underlying434
 a77:=isAgg434
 z77:=sizeOf434
 v77:=zeroValue434 }
end Go.Proofs
namespace Go.W
open Go Go.Proofs
open Enc (enc)
set_option maxRecDepth 10000
variable {B N i j k m n:Nat} {D R:Nat -> Prop} {P:Program} {a:Option Addr} {s:List UInt8} {u u' w':World}
def Qu (B:Nat) (w:World) (b:Nat) (most:Int) (L:List HitD):Prop:=(∃l:List HitD,QSt B b most l w/\HeapN hgt l l.length/\l.Perm L)/\SrtH L
theorem Qu.up{w:World}[Le w w']{b:Nat}{most:Int}{L:List HitD}(h:Qu B w b most L):Qu B w' b most L:=by
 obtain⟨⟨l,c,d⟩,e⟩:=h;exact⟨⟨l,c.up,d⟩,e⟩
theorem Qu.kept{C:Nat}{w:World}{d:List TypeId}{b:Nat}{most:Int}{L:List HitD}(h:Qu B w b most L)(f:FrT C d w w')(e:416∉d)(g:446∉d):Qu B w' b most L:=by
 obtain⟨⟨l,⟨a,c,q⟩,r⟩,o⟩:=h;exact⟨⟨l,⟨a,c,q.lo,q.cell.kept f e,q.row.kept f g,q.size⟩,r⟩,o⟩
theorem Qu.lt{w:World}{b:Nat}{most:Int}{L:List HitD}(h:Qu B w b most L):B<=b/\b<w.heap.size:=by
 obtain⟨⟨l,⟨a,c,q⟩,r⟩,d⟩:=h;exact⟨q.lo,q.cell.lt⟩
theorem zJ2{b:Nat}{most:Int}{L:List HitD}{w:World}(Q:Qu B w b most L):Sp PP 388 #[.pointer (some ⟨b,0,none⟩)] w λv w'=>v=.int .i64 (L.length:Nat)/\Stp w w':=by
 obtain⟨⟨l,⟨a,c,q⟩,_,d⟩,_⟩:=Q;refine eN ?_;refine rpnil (rcall (zGz q) ?_);rintro v w1 ⟨rfl,rfl⟩;rw [d.length_eq];exact⟨rfl,stp⟩
theorem zKD{b:Nat}{most:Int}{l:List HitD}{w:World}(S:QSt B b most l w)(E:HeapN hgt l l.length)(h:l≠[]):
  Sp PP 389 #[.pointer (some ⟨b,0,none⟩)] w λv w'=>v=agg (atL l 0)/\(∃l':List HitD,(atL l 0::l').Perm l/\QSt B b most l' w'/\HeapN hgt l' l'.length)/\FrT B pE w w':=by
 refine eN ?_;refine ral λF w1 n1 G=>rmki (rcall (Pop_sp (zJi B b most) (RX:=λx v=>v=.iface 446 (agg x)) (zPh B b most) (S.up (w':=w1)) h E) ?_);rintro v g ⟨⟨rfl,l',H,I,o⟩,p⟩;have d:=n1.lo (u:=w);have J:FrT B pE w g:=(FrT.ext Le.e).trans p;have r:Bk g F [.int .i64 0,.int .i64 0] 206:=G.kept p (by decide);refine rta (ral λO Q n3 t=>rE t (atL l 0) λf K y _=>?_);have T:Stp g f:=n3.st y;clear t y;refine rG K (atL l 0) (rE r (atL l 0) λz U A _=>?_);have L:FrT B pE w z:=Fr.new (Fr.trans J (fE g f)) A λi hi=>by subst hi;exact d
 have C:FrT w.heap.size [206] f z:=(r.mv (w:=f)).wrote A d (by decide);refine rresG rfl ?_;have M:=I.up (w':=f);obtain⟨a,c,q⟩:=M;exact⟨rfl,⟨l',H,⟨a,c,q.lo,q.cell.kept C (by decide),q.row.kept C (by decide),q.size⟩,o⟩,L⟩
theorem zJ3{b:Nat}{most:Int}{L:List HitD}{x:HitD}{w:World}(Q:Qu B w b most L)(hL:L.length<=99999):
  Sp PP 359 #[.pointer (some ⟨b,0,none⟩),agg x] w λv w'=>v=.tuple #[agg (putQ most L x).2.1,.bool (putQ most L x).2.2]/\Qu B w' b most (putQ most L x).1/\FrT B pE w w':=by
 have QQ:=Q;obtain⟨⟨l,S,hh,U⟩,hs⟩:=Q;have a0:=U.length_eq;refine eN ?_;refine rbx λbh w1 n1 V=>ral λb2 w2 n2 B2=>?_;have d:=n2.lo (u:=w);refine rpnil (dD (λi=>i≠bh) (upF 7 0) λz e3=>tmki (tG V x (λh=>h rfl) (tmki (rcall (zPO (zJi B b most) (y:=x) (S.up (w':=z)) (by omega) hh (zOi (S.up (w':=z)) (by omega))) ?_))));rintro v A ⟨⟨l',E,F,f⟩,G⟩;refine⟨G.ne (V.mv (w:=z)) (by decide),?_⟩;have W:FrT B pE w A:=(FrT.ext Le.e).trans G;have H:Bk A b2 [.int .i64 0,.int .i64 0] 206:=(B2.mv (w:=z)).kept G (by decide)
 have C:l'.Perm (insH x L):=by
  refine E.trans ((VE x l).trans ((U.cons x).trans (zCv x L).symm))
 have g:=zG4 x hs;have X:Qu B A b most (insH x L):=⟨⟨l',F,f,C⟩,g⟩;have a1:=zEt x L;refine dD (λ_=>False) [0,2,3,4,5,1,6] λY e5=>?_;have I:=F.up (w':=Y);obtain⟨a5,c5,q5⟩:=I;refine tX q5.cell rfl nf (rcall (zJ2 (X.up (w':=Y))) ?_);rintro v p ⟨rfl,e6⟩;refine⟨e6.e,?_⟩;refine ite (λJ=>?_) (λhgt=>?_)
 ·have o:putQ most L x=(insH x L,zH,false):=by unfold putQ;rw [if_pos J]
  rw [o];refine rbuild (cs:=enc zH) rfl (rE H zH λq B7 r _=>?_);have K7:FrT w.heap.size [206] p q:=(H.mv (w:=p)).wrote r d (by decide);have K:FrT B pE w q:=Fr.new (Fr.trans W (fE A p)) r λi hi=>by subst hi;exact d
  refine rresG rfl ?_;exact⟨rfl,(X.up (w':=p)).kept K7 (by decide) (by decide),K⟩
 ·have o:putQ most L x=((insH x L).dropLast,(insH x L).getLast?.getD zH,true):=by unfold putQ;rw [if_neg hgt]
  rw [o];have M:l'≠[]:=by rintro rfl;have:=C.length_eq;simp at this;omega
  refine rcall (zKD (F.up (w':=p)) f M) ?_;rintro v q ⟨rfl,⟨l7,O,S7,T⟩,r⟩;have t:=zNq zME f
  have c:=g.last (O.trans C) (λy hy=>by
   have I:=QI.1 (C.mem_iff.2 hy);obtain⟨i,hi,rfl⟩:=I;have:=t i hi;rw [zBx hi] at this;exact this)
  rw [c.1];have Z:=(H.mv (w:=p)).kept r (by decide);have K:FrT B pE w q:=(W.trans (FrT.ext Le.e)).trans r;refine rE Z (atL l' 0) λw8 B8 f8 _=>?_;have K8:FrT w.heap.size [206] q w8:=Z.wrote f8 d (by decide);have F8:FrT B pE w w8:=Fr.new K f8 λi hi=>by subst hi;exact d
  have Q7:Qu B q b most (insH x L).dropLast:=⟨⟨l7,S7,T,c.2⟩,g.sublist (List.dropLast_sublist _)⟩;refine rresG rfl ?_;exact⟨rfl,Q7.kept K8 (by decide) (by decide),F8⟩
theorem zJY{c:Nat}{l:List HitD}{w:World}(h:SlF w (.slice a n c) l)(t:l.length<=1000000):Sp PP 390 #[.slice a n c] w λv w'=>Own w.heap.size 446 w' v l/\Stp w w':=by
 have p:=h.len;obtain rfl:=p;refine eN ?_;refine rsnil (λe=>?_) (λe=>?_)
 ·have q:l=[]:=by
   obtain⟨x,y,r,_,d⟩:=h;cases r;rcases d with d|⟨b,o,f,_⟩
   ·exact d
   ·rw [e] at f;cases f
  subst q;exact⟨Own.nil _ _ _,stp⟩
 ·refine rbs (α:=HitD) [] rfl (vs:=[]) rfl rfl (by decide) λz w1 n1 _=>?_;have A:Stp w w1:=⟨n1.ext⟩;refine rapp (u:=w) ⟨rfl,rfl⟩ (Own.nil' _ 446 _ _) (h.up (w':=w1)) (by simp;omega) λC E g F G=>?_;rw [Je] at g;exact⟨g,stp⟩
instance:Inhabited HitD:=⟨zH⟩
theorem zQD:Go.Sort.SWO (ltOf toI):=by
 have h:=toI_lt;refine⟨λx=>?_,λx y z b c=>?_,λx y z b c=>?_⟩ <;> simp only [ltOf,decide_eq_false_iff_not,decide_eq_true_eq,h,zDV] at * <;> omega
theorem zJ1{b:Nat}{most:Int}{L:List HitD}{w:World}(Q:Qu B w b most L):
  Sp PP 360 #[.pointer (some ⟨b,0,none⟩)] w λv w'=>Own w.heap.size 206 w' v L/\Stp w w':=by
 obtain⟨⟨l,⟨a,c,q⟩,hh,G⟩,S⟩:=Q;have t:=G.length_eq;have T:=q.size;refine eN ?_;refine rpnil (rX q.cell rfl (rcall (zJY q.row.sl (by omega)) ?_));rintro v w1 ⟨H,e1⟩;have z:=H.shape;obtain⟨a1,c1,rfl⟩:=z;refine rcall (zCZ Tryz.sortH (k:=2) (show Agg PP 446 2 from inferInstance) rfl toI zQD (f:=391) rfl (λx y W=>zI8) H (by omega)) ?_;rintro r p ⟨rfl,d,A,C,I,U⟩;have s2:Stw w w1 p:=zAI U
 have E:SrtH d:=C.imp λ{x y} h=>by
  cases V:hlt y x with
  |false=>rfl
  |true=>exact(h ((toI_lt _ _).2 V)).elim
 have F:d=L:=E.uniq S (A.trans G);subst F;rw [t] at I ⊢;refine cO 19 [6] 4 19 d.length (λk v u=>Own p.heap.size 206 u v (d.take k)/\Stp p u) ⟨Own.nil _ 206 _,stp⟩ ?_;rintro k v g u hk ⟨O,e⟩;refine ite (λJ=>?_) (λX=>?_)
 ·have o:k<d.length:=by omega
  refine rix (I.sl.up (w':=u)) (x:=d[k]) (by simp) λb4 o4 Y=>rloadA Y rfl (ral λb5 u5 Z K=>rE K (d[k]) λu6 B6 M _=>?_);have s6:Stp u u6:=Z.st M;clear K M;refine rG B6 (d[k]) (rbs1 d[k] rfl rfl (by decide) λb7 u7 e7 _ S7=>rapp1 (u:=p) ⟨rfl,rfl⟩ (O.up (w':=u7)) S7 (by rw [Qm];omega) λv8 u8 O8 f8 s8=>rA ⟨rfl,o,?_,stp⟩);rw [take_add o];exact O8
 ·have z:k=d.length:=by omega
  obtain rfl:=z;rw [Qg] at O;exact⟨O.older,stp⟩
def firstQ (k:Int) (l:List HitD):List HitD:=l.foldl (λL x=>(putQ k L x).1) []
theorem zNn(k:Int)(l:List HitD):(firstQ k l).length<=l.length:=by
 have:∀(l L:List HitD),(l.foldl (λL x=>(putQ k L x).1) L).length<=L.length+l.length:=by
  intro l
  induction l with
  |nil=>intro L;simp
  |cons x r b=>intro L;rw [JY];have:=b (putQ k L x).1;have:=zPk (most:=k) (L:=L) (x:=x);simp;omega
 have:=this l [];unfold firstQ;simpa using this
theorem zLG{k:Int}{l:List HitD}(h:i<l.length):firstQ k (l.take (i+1))=(putQ k (firstQ k (l.take i)) l[i]).1:=by
 unfold firstQ;rw [take_add h,VF];rfl
theorem zJC{c:Nat}{l:List HitD}{k:Int}{w:World}(h:SlF w (.slice a n c) l)(M:l.length<=1000):
  Sp PP 285 #[.slice a n c,.int .i64 k] w λv w'=>Own w.heap.size 206 w' v (if k<1 then [] else firstQ k l)/\Stp w w':=by
 have f:=h.len;obtain rfl:=f;refine eN ?_;refine ite (λo=>?_) (λo=>?_)
 ·rw [if_pos o];exact⟨Own.nil _ _ _,stp⟩
 rw [if_neg o];refine rbuild (cs:=[.slice none 0 0,.int .i64 k]) rfl (rbx λb w1 n1 z=>?_);have A:Qu w.heap.size w1 b k (firstQ k (l.take 0)):=⟨⟨[],⟨none,0,n1.lo,z,Own.nil _ _ _,by simp⟩,λc c0 C=>absurd C (by simp),.refl _⟩,.nil⟩;refine cN 15 [7] 15 l.length (λi u=>Qu w.heap.size u b k (firstQ k (l.take i))/\Stp w u) ⟨A,stp⟩ ?_;rintro i g u hi ⟨Q,e⟩;refine ite (λq=>?_) (λE=>?_)
 ·have d:i<l.length:=by omega
  refine rix (h.up (w':=u)) (x:=l[i]) (by simp) λO S F=>rloadA F rfl (ral λT U G r=>rE r (l[i]) λt H y _=>?_);have V:Stp u t:=G.st y;clear r y;have p:=zNn k (l.take i);rw [Qm] at p;refine rG H (l[i]) (rcall (zJ3 (x:=l[i]) (Q.up (w':=t)) (by omega)) ?_);rintro v I ⟨rfl,J,K⟩;have W:Stp w I:=⟨FrT.st Le.e K (Qe _)⟩;refine rA ⟨rfl,d,?_,stp⟩;rw [zLG d];exact J
 ·have f:i=l.length:=by omega
  obtain rfl:=f;rw [Qg] at Q;refine rcall (zJ1 Q) ?_;rintro v X ⟨L,Y⟩;exact⟨L.older,stp⟩
theorem zMH(x : HitD) : ∀ (l : List HitD) (i : Nat), i <= l.length -> (∀ j, j < i -> (e : j < l.length) -> hlt x l[j] = false) -> ((hi : i < l.length) -> hlt x l[i] = true) -> insH x l = l.take i ++ x :: l.drop i
  | [], i, hi, _, _ => by have : i = 0 := by simpa using hi
                          subst this; rfl
  | y :: r, 0, _, _, h => by
    have := h (by simp);unfold insH; rw [if_pos (by simpa using this)]; rfl
  | y :: r, i + 1, hi, d, h => by
    have h0 := d 0 (by omega) (by simp);unfold insH; rw [if_neg (by simpa using h0)];rw [zMH x r i (by simpa using hi) (λj e b => by have := d (j + 1) (by omega) (by simpa using b); simpa using this) (λc => by have := h (by simpa using c); simpa using this)];rfl
def srtH (l:List HitD):List HitD:=l.foldl (λL x=>insH x L) []
theorem zOy{l:List HitD}(h:i<l.length):srtH (l.take (i+1))=insH l[i] (srtH (l.take i)):=by
 unfold srtH;rw [take_add h,VF];rfl
theorem zEH(l:List HitD):SrtH (srtH l)/\(srtH l).Perm l:=by
 have:∀(l L:List HitD),SrtH L->SrtH (l.foldl (λL x=>insH x L) L)/\(l.foldl (λL x=>insH x L) L).Perm (L++l):=by
  intro l
  induction l with
  |nil=>intro L h;exact⟨h,by simp⟩
  |cons x r b =>
   intro L h;rw [JY];have:=b (insH x L) (zG4 x h);exact⟨this.1,this.2.trans (((zCv x L).append_right r).trans List.perm_middle.symm)⟩
 have h:=this l [] .nil;exact⟨h.1,h.2⟩
theorem zJb(x:HitD):∀(l:List HitD) (n:Nat),(insH x l).take n=(insH x (l.take n)).take n
 |[],n=>by simp
 |y::r,0=>by simp
 |y::r,n+1=>by
  rw [Vd];unfold insH;split
  ·rw [Vd,Vd];congr 1
   cases n with
   |zero=>simp
   |succ m=>rw [Vd,Vd,Xz,VB (by omega)]
  ·rw [Vd,Vd,zJb x r n]
theorem zOj(b:k=n){M:List HitD}(c:M.length<=n)(x:HitD):(putQ (k:Int) M x).1=(insH x M).take n:=by
 subst b;unfold putQ;have d:=zEt x M;split
 ·rw [Qj (by omega)]
 ·rw [XO,show (insH x M).length - 1=k by omega]
theorem zGu(k:Nat)(l:List HitD):firstQ (k:Int) l=(srtH l).take k:=by
 have:∀(l L M:List HitD),M=L.take k->l.foldl (λL x=>(putQ (k:Int) L x).1) M=(l.foldl (λL x=>insH x L) L).take k:=by
  intro l
  induction l with
  |nil=>intro L M h;exact h
  |cons x r b =>
   intro L M h;rw [JY,JY];refine b (insH x L) _ ?_;subst h;rw [zOj rfl (by rw [Qm];omega),<-zJb]
 exact this l [] [] (by simp)
theorem zKT{a b:HitD}{w:World}:Sp PP 393 #[agg a,agg b] w λv w'=>v=.bool (hlt a b)/\Stp w w':=by
 refine eN ?_;refine rbx λh w1 n1 c=>rbx λl o n2 d=>rX c rfl (rX d rfl ?_);refine ite (λe=>?_) (λe=>?_)
 ·rw [(zDV a b).2 (.inl e)];exact⟨rfl,stp⟩
 refine rX c rfl (rX d rfl ?_);refine ite (λf=>?_) (λf=>?_)
 ·refine rX c rfl (rX d rfl ?_);refine ite (λg=>?_) (λg=>?_)
  ·rw [(zDV a b).2 (.inr ⟨f,g⟩)];exact⟨rfl,stp⟩
  ·rw [(hlt_ff a b).2 (by omega)];exact⟨rfl,stp⟩
 ·rw [(hlt_ff a b).2 (by omega)];exact⟨rfl,stp⟩
theorem zNC{c:Nat}{l:List HitD}{x:HitD}{w:World}(h:SlF w (.slice a n c) l)(U:l.length<=1000000):
  Sp PP 367 #[.slice a n c,agg x] w λv w'=>Own w.heap.size 206 w' v (insH x l)/\Stp w w':=by
 have f:=h.len;obtain rfl:=f;refine eN ?_;refine rbx λbx w1 n1 y=>cN 6 [] 5 l.length (λi u=>(∀j,j<i->(hj:j<l.length)->hlt x l[j]=false)/\Stp w1 u) ⟨by omega,stp⟩ ?_;rintro i g u hi ⟨z,e⟩;have fin:((hi:i<l.length)->hlt x l[i]=true)->insH x l=l.take i++x::l.drop i:=λH=>zMH x l i hi z H;refine dQ 13 λp V=>ite (λC=>?pp) (λI=>?qq)
 case' pp =>
  have t:i<l.length:=by omega
  refine tG y x nf (tix (h.up (w':=p)) (x:=l[i]) (by simp) λW X J _=>tloadA J rfl nf ?_);have A:=zKT (a:=x) (b:=l[i]) (w:=p);cases q:hlt x l[i]
  case' false =>
   rw [q] at A;refine rcall A ?_;rintro v d ⟨rfl,r⟩;refine⟨r.e,?_⟩;exact rA ⟨rfl,t,below2 z λ_=>q,stp⟩
  rw [q] at A;refine rcall A ?_;rintro v d ⟨rfl,r⟩;refine⟨r.e,?_⟩;have fin:=fin λ_=>q
 case' qq =>
  have f:i=l.length:=by omega
  obtain rfl:=f;have fin:=fin λh=>absurd h (by omega);have f:∃d,d=p:=⟨_,rfl⟩;obtain⟨d,o⟩:=f;have r:Stp p d:=by subst o;exact stp
  rw [<-o]
 all_goals
  refine rsl none (some _) (h.up (w':=d)) (by simp) (by first|(simp;done)|simpa using hi) λa3 c3 K=>?_;refine rapp (u:=d) ⟨rfl,rfl⟩ (Own.nil _ 206 _) K (by simp;omega) λY Z L f5 s5=>rG y x (bS x λb6 w6 e6 _ M=>rapp1 (u:=d) ⟨rfl,rfl⟩ L.up M (by simp;omega) λv7 O Q f7 s7=>rsl (some _) none (h.up (w':=O)) (by first|(simp;done)|simpa using hi) (by simp) λa4 c4 S=>?_);refine rapp (u:=d) ⟨rfl,rfl⟩ Q S (by simp;omega) λE F T f8 s8=>?_;rw [fin];have G:Own d.heap.size 206 F E _:=T;rw [zCX,zBB] at G;exact⟨(show Own d.heap.size 206 F E _ by simpa using G).older,stp⟩
theorem zKU{c:Nat}{l:List HitD}{k:Int}{w:World}(h:SlF w (.slice a n c) l)(M:l.length<=1000):
  Sp PP 306 #[.slice a n c,.int .i64 k] w λv w'=>(∃C E,v=.slice C (if k<1 then [] else (srtH l).take k.toNat).length E/\SlY 206 w' v (if k<1 then [] else (srtH l).take k.toNat))/\Stp w w':=by
 have b:=h.len;obtain rfl:=b;refine eN ?_;refine cO 7 [] 5 6 l.length (λi v u=>Own w.heap.size 206 u v (srtH (l.take i))/\Stp w u) ⟨Own.nil _ _ _,stp⟩ ?_;rintro i v g u hi ⟨O,e⟩;have r:=(zEH (l.take i)).2.length_eq;rw [Qm] at r;refine ite (λt=>?_) (λF=>?_)
 ·have d:i<l.length:=by omega
  refine rix (h.up (w':=u)) (x:=l[i]) (by simp) λQ S G=>rloadA G rfl ?_;have b:=O.shape;obtain⟨H,I,rfl⟩:=b;refine rcall (zNC (x:=l[i]) O.sl (by omega)) ?_;rintro v T ⟨J,U⟩;exact rA ⟨rfl,d,by rw [zOy d];exact J.older,stp⟩
 ·have b:i=l.length:=by omega
  obtain rfl:=b;rw [Qg] at O;have r:=(zEH l).2.length_eq;refine ite (λo=>?_) (λo=>?_)
  ·rw [if_pos o];exact⟨⟨none,0,rfl,SlY.nil _ _⟩,stp⟩
  ·rw [if_neg o];have b:=O.shape;obtain⟨H,I,rfl⟩:=b;refine rmin ?_;have K:min k.toNat (srtH l).length<=(srtH l).length:=Nat.min_le_right _ _;have f:min k ((srtH l).length:Int)=((min k.toNat (srtH l).length:Nat):Int):=by omega
   refine rslYp (min k.toNat (srtH l).length) O.y K (congrArg (Value.int .i64) f) λz A p _=>?_
   have L:(srtH l).take (min k.toNat (srtH l).length)=(srtH l).take k.toNat:=by
    rw [Nat.min_def];split
    ·rfl
    ·rw [Qg,Qj (by omega)]
   rw [L] at p;have q:=p.len;refine⟨⟨z,A,?_,?_⟩,stp⟩
   ·exact congrArg (λm=>Value.slice z m A) q
   ·exact p
open Go
def minL:List Int->Option Int
 |[]=>none
 |x::r=>match minL r with
  |none=>some x
  |some y=>some (min x y)
theorem zJf{l:List Int}:minL l=none↔l=[]:=by
 cases l with
 |nil=>simp [minL]
 |cons x r=>unfold minL;cases minL r <;> simp
theorem zFt{l:List Int}{m:Int}:minL l=some m↔m∈l/\∀y∈l,m<=y:=by
 induction l generalizing m with
 |nil=>simp [minL]
 |cons x r g =>
  unfold minL
  cases d:minL r with
  |none =>
   have:=zJf.1 d;subst this;simp only [JK,Qc,forall_eq];exact⟨λh=>⟨h.symm,by omega⟩,λh=>h.1.symm⟩
  |some y =>
   have b:=g.1 d;obtain⟨e,f⟩:=b;simp only [JK,Ql,forall_eq_or_imp];constructor
   ·rintro rfl;refine⟨?_,Int.min_le_left _ _,λz o=>Int.le_trans (Int.min_le_right _ _) (f z o)⟩;have b:=Int.le_total x y;rcases b with h|h
    ·exact .inl (Int.min_eq_left h)
    ·right;rw [Yk h];exact e
   ·rintro⟨c,q,p⟩;have:=p y e;rcases c with rfl|c
    ·omega
    ·have:=f m c;omega
def sums (S:List StD):List Int:=S.flatMap λx=>if x.key.dir=0 then (S.filter λy=>decide (y.key.dir=1/\y.key.v=x.key.v)).map λy=>x.d+y.d else []
theorem zDa{S:List StD}{m:Int}:m∈sums S↔∃x∈S,∃y∈S,x.key.dir=0/\y.key.dir=1/\y.key.v=x.key.v/\m=x.d+y.d:=by
 unfold sums;simp only [VP];constructor
 ·rintro⟨x,e,h⟩;split at h
  ·rename_i h0;have f:=Qq.1 h;obtain⟨y,b,rfl⟩:=f;have f:=QC.1 b;obtain⟨b,c⟩:=f;simp only [decide_eq_true_eq] at c;exact⟨x,e,y,b,h0,c.1,c.2,rfl⟩
  ·cases h
 ·rintro⟨x,e,y,b,h0,c,g,rfl⟩;refine⟨x,e,?_⟩;rw [if_pos h0];exact Qq.2 ⟨y,QC.2 ⟨b,by simp [c,g]⟩,rfl⟩
structure AnP where
 found:Bool
 num:Int
 hits:List HitD
deriving DecidableEq
def zAn:AnP:=⟨false,0,[]⟩
def hasDir (M:List StD) (d:Int):Bool:=M.any λm=>decide (m.key.dir=d)
def firstK (k:Int) (l:List HitD):List HitD:=if k<1 then [] else firstQ k l
def hitsL (pl:List Int) (S:List StD):List HitD:=(S.filter λx=>decide (x.key.dir=0) && pl.contains x.key.v).map λx=>⟨x.key.v,x.d⟩
def distL (S M:List StD):AnP×Bool:=match minL (sums S) with
 |some m=>(⟨true,m,[]⟩,true)
 |none=>(zAn,!hasDir M 0 || !hasDir M 1)
def reachL (to:Int) (S M:List StD):AnP×Bool:=
 if S.any λx=>decide (x.key.dir=0/\x.key.v=to) then (⟨true,0,[]⟩,true) else (zAn,M.isEmpty)
def nearL (pl:List Int) (most:Int) (S M:List StD):AnP×Bool:=
 if M.isEmpty then (⟨!(firstK most (hitsL pl S)).isEmpty,0,firstK most (hitsL pl S)⟩,true) else (zAn,false)
def placesL (g:GrD) (ws:List ByteArray):List Int:=((List.range g.n).filter λv=>ws.all λs=>(g.ws.getD v []).contains s).map λv:Nat=>(v:Int)
def doneL (g:GrD) (q:QyD) (S M:List StD):AnP×Bool:=
 if q.kind=1 then distL S M else if q.kind=2 then reachL q.to S M else if q.kind=3 then nearL (placesL g q.words) q.most S M else (zAn,true)
structure CfD where
 workers:Nat
 slots:Nat
 queue:Nat
 pool:Nat
 budget:Nat
structure RqD where
 id:Int
 kind:Int
 q:QyD
structure SvD where
 wait:List RqD
 held:List (Option (RqD×Nat))
def homW (W:Nat) (v:Int):Int:=(v*40503+12345) % 65536 % W
def sts1 (g:GrD) (h:Option (RqD×Nat)) (at':Nat):List StD:=match h with
 |some (x,i)=>sts g x.q at' i
 |none=>[]
def allS (g:GrD) (h:List (Option (RqD×Nat))):List StD:=(List.range h.length).flatMap λk=>sts1 g (h.getD k none) k
def liveW (g:GrD) (W:Nat) (h:List (Option (RqD×Nat))) (w:Nat):Nat:=((allS g h).filter λx=>decide (homW W x.key.v=w)).length
def overS (g:GrD) (c:CfD) (h:List (Option (RqD×Nat))):Bool:=(List.range c.workers).any λw=>decide (c.pool<liveW g c.workers h w)
def repOf (id code:Int) (a:AnP):RepD:=⟨id,code,⟨a.found,a.num,⟨none,0,0⟩⟩⟩
open Classical in
/-- a reply's bytes; one that may not be has none -/
noncomputable def repB (id code:Int) (a:AnP):List UInt8:=if RepOk (repOf id code a) a.hits then encR (repOf id code a) a.hits else []
noncomputable def stepS (g:GrD) (c:CfD) (h:List (Option (RqD×Nat))) (k:Nat):List (Option (RqD×Nat))×Option (List UInt8):=
 match h.getD k none with
 |none=>(h,none)
 |some (x,i) =>
  if overS g c (h.set k (some (x,i+1))) then (h.set k none,some (repB x.id 250 zAn))
  else if (doneL g x.q (sts g x.q k (i+1)) (mls g x.q k (i+1))).2 then (h.set k none,some (repB x.id 0 (doneL g x.q (sts g x.q k (i+1)) (mls g x.q k (i+1))).1))
  else if c.budget<=i+1 then (h.set k none,some (repB x.id 251 zAn))
  else (h.set k (some (x,i+1)),none)
def usedS (h:List (Option (RqD×Nat))):List Nat:=selN (λk=>(h.getD k none).isSome) h.length
def freeS (h:List (Option (RqD×Nat))):Option Nat:=h.findIdx? λx=>x.isNone
def admitS:List RqD->List (Option (RqD×Nat))->List RqD×List (Option (RqD×Nat))
 |[],h=>([],h)
 |x::r,h=>match freeS h with
  |some k=>admitS r (h.set k (some (x,0)))
  |none=>(x::r,h)
noncomputable def stepsS (g:GrD) (c:CfD):List Nat->List (Option (RqD×Nat))->List (Option (RqD×Nat))×List (List UInt8)
 |[],h=>(h,[])
 |k::r,h=>((stepsS g c r (stepS g c h k).1).1,(stepS g c h k).2.toList++(stepsS g c r (stepS g c h k).1).2)
noncomputable def tickS (g:GrD) (c:CfD) (s:SvD):SvD×List (List UInt8):=
 (⟨(admitS s.wait s.held).1,(stepsS g c (usedS (admitS s.wait s.held).2) (admitS s.wait s.held).2).1⟩,(stepsS g c (usedS (admitS s.wait s.held).2) (admitS s.wait s.held).2).2)
def heldAt (h:List (Option (RqD×Nat))) (id:Int):Option Nat:=h.findIdx? λx=>match x with
 |some (r,_)=>decide (r.id=id)
 |none=>false
def waitAt (l:List RqD) (id:Int):Option Nat:=l.findIdx? λr=>decide (r.id=id)
def backS (s:SvD) (id:Int):SvD×Int:=match waitAt s.wait id with
 |some k=>(⟨s.wait.eraseIdx k,s.held⟩,253)
 |none=>match heldAt s.held id with
  |some k=>(⟨s.wait,s.held.set k none⟩,253)
  |none=>(s,141)
open Classical in
noncomputable def askS (g:GrD) (c:CfD) (s:SvD) (x:RqD) (ok:Prop):SvD×Int:=
 if ok then (if (heldAt s.held x.id).isSome then (s,150) else if (waitAt s.wait x.id).isSome then (s,150) else if c.queue<=s.wait.length then (s,252) else (⟨s.wait++[x],s.held⟩,0)) else (s,180)
open Classical in
/-- a number at the front of bytes, and what is left -/
noncomputable def rdN (r:List UInt8):Option (Nat×List UInt8):=if h:∃p:Nat×List UInt8,p.1<=2147483647/\r=numB p.1++p.2 then some h.choose else none
theorem zAv{r t:List UInt8}:rdN r=some (n,t)↔n<=2147483647/\r=numB n++t:=by
 unfold rdN;split
 ·rename_i h;have b:=h.choose_spec;constructor
  ·intro e;rw [QL e] at b;exact b
  ·rintro⟨_,c⟩;have e:=zHa (b.2.symm.trans c);congr 1;exact Prod.ext e.1 e.2
 ·rename_i h;exact⟨(λe=>nomatch e),λe=>absurd ⟨(n,t),e⟩ h⟩
theorem zPn{r:List UInt8}:rdN r=none↔∀(n:Nat) (t:List UInt8),n<=2147483647->r≠numB n++t:=by
 constructor
 ·intro h n t b c;rw [zAv.2 ⟨b,c⟩] at h;cases h
 ·intro h
  cases e:rdN r with
  |none=>rfl
  |some p=>obtain⟨b,c⟩:=zAv.1 e;exact absurd c (h _ _ b)
theorem zA6(h:n<=2147483647)(t:List UInt8):rdN (numB n++t)=some (n,t):=zAv.2 ⟨h,rfl⟩
noncomputable def rdT (r:List UInt8):Option (List UInt8×List UInt8):=match rdN r with
 |some (n,t)=>if n<=4000/\n<=t.length then some (t.take n,t.drop n) else none
 |none=>none
def rdMany {α:Type} (f:List UInt8->Option (α×List UInt8)):Nat->List UInt8->Option (List α×List UInt8)
 |0,r=>some ([],r)
 |k+1,r=>match f r with
  |none=>none
  |some (x,t)=>match rdMany f k t with
   |none=>none
   |some (l,u)=>some (x::l,u)
def preR {α:Type} (acc:List α) (o:Option (List α×List UInt8)):Option (List α×List UInt8):=o.map λp=>(acc++p.1,p.2)
section
variable {α:Type} {f:List UInt8->Option (α×List UInt8)}
theorem zBP(o:Option (List α×List UInt8)):preR [] o=o:=by cases o <;> simp [preR]
theorem zA7{r:List UInt8}(h:f r=none):rdMany f (k+1) r=none:=by simp [rdMany,h]
theorem zAF{r t:List UInt8}{x:α}(h:f r=some (x,t))(b:List α):preR b (rdMany f (k+1) r)=preR (b++[x]) (rdMany f k t):=by
 simp only [rdMany,h]
 cases rdMany f k t with
 |none=>rfl
 |some p=>simp [preR]
end
noncomputable def rdRow (r:List UInt8):Option (List Nat×List UInt8):=match rdN r with
 |some (n,t)=>if n<=4000 then rdMany rdN n t else none
 |none=>none
noncomputable def rdWs (r:List UInt8):Option (List (List UInt8)×List UInt8):=match rdN r with
 |some (n,t)=>if n<=8 then rdMany rdT n t else none
 |none=>none
noncomputable def rdPl (r:List UInt8):Option ((List Nat×List (List UInt8))×List UInt8):=match rdRow r with
 |some (l,t)=>match rdWs t with
  |some (w,u)=>some ((l,w),u)
  |none=>none
 |none=>none
def bsOf (l:List UInt8):ByteArray:=⟨l.toArray⟩
theorem zOM{a b:List UInt8}(h:bsOf a=bsOf b):a=b:=by
 have:=congrArg (λx:ByteArray=>x.data.toList) h;simpa [bsOf] using this
def edsOf:Nat->List (List Nat)->List EdN
 |_,[]=>[]
 |v,l::r=>l.map (λt=>⟨v,t⟩)++edsOf (v+1) r
theorem zEl(l:List Nat):∀(b:List (List Nat)) (v:Nat),edsOf v (b++[l])=edsOf v b++l.map λt=>⟨v+b.length,t⟩
 |[],v=>by simp [edsOf]
 |r::b,v=>by
  rw [VO,edsOf,zEl l b (v+1),edsOf,Qp,QA,show v+1+b.length=v+(b.length+1) by omega]
def grOf (n:Nat) (ps:List (List Nat×List (List UInt8))):GrD:=⟨n,edsOf 0 (ps.map (·.1)),ps.map λp=>p.2.map bsOf⟩
def WordB (s:ByteArray):Prop:=(∀c∈s.data.toList,97<=c.toNat/\c.toNat<=122)/\1<=s.size/\s.size<=12
def ltE (a b:EdN):Prop:=a.f<b.f\/a.f=b.f/\a.t<b.t
def ltW (a b:ByteArray):Prop:=a.data.toList<b.data.toList
structure GrIs (g:GrD):Prop where
 ok:GrOk g
 ne:g.es.length<=2000
 nw:g.ws.length=g.n
 word:∀l∈g.ws,l.length<=8/\∀s∈l,WordB s
 er:g.es.Pairwise ltE
 wr:∀l∈g.ws,l.Pairwise ltW
noncomputable def rdI (s:List UInt8):Option (Nat×List (List Nat×List (List UInt8))×List UInt8):=match s with
 |119::103::r=>match rdN r with
  |some (n,t)=>if n<=200 then (match rdMany rdPl n t with|some (ps,u)=>some (n,ps,u)|none=>none) else none
  |none=>none
 |_=>none
open Classical in
/-- an image's graph -/
noncomputable def imgOf (s:List UInt8):Option GrD:=match rdI s with
 |some (n,ps,u)=>if u=[]/\GrIs (grOf n ps) then some (grOf n ps) else none
 |none=>none
theorem zKp{g:GrD}(h:imgOf s=some g):GrIs g:=by
 unfold imgOf at h;split at h
 ·split at h
  ·rename_i b;cases h;exact b.2
  ·cases h
 ·cases h
noncomputable def rdQ (kind:Nat) (r:List UInt8):Option (QyD×List UInt8):=match rdN r with
 |none=>none
 |some (a,r1) =>
  if kind<=2 then (match rdN r1 with
   |none=>none
   |some (b,r2)=>some (⟨kind,a,b,[],0,0⟩,r2))
  else match rdWs r1 with
   |none=>none
   |some (ws,r2)=>match rdN r2 with
    |none=>none
    |some (x,r3)=>match rdN r3 with
     |none=>none
     |some (y,r4)=>some (⟨kind,a,0,ws.map bsOf,x,y⟩,r4)
def zQy:QyD:=⟨0,0,0,[],0,0⟩
noncomputable def rdR (s:List UInt8):Option (RqD×List UInt8):=match rdN s with
 |none=>none
 |some (id,r1)=>match rdN r1 with
  |none=>none
  |some (k,r2)=>if k<=4 then (if k=4 then some (⟨id,4,zQy⟩,r2) else match rdQ k r2 with
   |none=>none
   |some (q,r3)=>some (⟨id,k,q⟩,r3)) else none
def QyIs (q:QyD) (n:Int):Prop:=(q.kind=1\/q.kind=2\/q.kind=3)/\(0<=q.frm/\q.frm<n)/\(q.kind<3->0<=q.to/\q.to<n) /\
 (q.kind=3->(1<=q.words.length/\q.words.length<=8)/\(0<=q.rad/\q.rad<=200)/\(1<=q.most/\q.most<=100)/\∀s∈q.words,WordB s)
theorem QyIs.ok{q:QyD}(h:QyIs q n):QyOk q n:=⟨h.1,h.2.1,h.2.2.1,λk=>by have:=h.2.2.2 k;omega⟩
def RqIs (x:RqD):Prop:=(x.kind=4\/x.q.kind=x.kind/\QyIs x.q 200)/\(0<=x.id/\x.id<=2147483647) /\
 (if x.kind=4 then x.q=zQy else if x.kind=3 then x.q.to=0 else x.q.words=[]/\x.q.rad=0/\x.q.most=0)
open Classical in
noncomputable def reqOf (s:List UInt8):Option RqD:=match rdR s with
 |some (x,[])=>if RqIs x then some x else none
 |_=>none
noncomputable def idOf (s:List UInt8):Option Nat:=(rdN s).map (·.1)
theorem zCh{x:RqD}(h:reqOf s=some x):RqIs x:=by
 unfold reqOf at h;split at h
 ·split at h
  ·rename_i b;cases h;exact b
  ·cases h
 ·cases h
noncomputable def comeS (g:GrD) (c:CfD) (s:SvD) (f:List UInt8):SvD×Option (List UInt8):=match reqOf f with
 |none=>match idOf f with
  |none=>(s,none)
  |some id=>(s,some (repB id 220 zAn))
 |some x=>if x.kind=4 then ((backS s x.id).1,some (repB x.id (backS s x.id).2 zAn))
  else if (askS g c s x (QyIs x.q g.n)).2=0 then ((askS g c s x (QyIs x.q g.n)).1,none) else (s,some (repB x.id (askS g c s x (QyIs x.q g.n)).2 zAn))
def RdsV {α:Type} (f:List UInt8->Option (α×List UInt8)) (s:List UInt8) (A:Nat) (x:α) (A':Nat):Prop:=A'<=s.length/\f (s.drop A)=some (x,s.drop A')
theorem rdn_of{A:Nat}(h:RdAt s A n):RdsV rdN s A n (A+(numB n).length):=by
 obtain⟨c,t,b⟩:=h;have d:=congrArg List.length b;rw [QR,Qb] at d;have e:=JI.2 (zIt n);refine⟨by omega,zAv.2 ⟨c,?_⟩⟩;rw [<-VZ,b,V0]
theorem rdn_no{A:Nat}(h:∀n,¬RdAt s A n):rdN (s.drop A)=none:=zPn.2 λn t b c=>h n ⟨b,t,c⟩
theorem rdN_le{r t:List UInt8}(h:rdN r=some (n,t)):n<=2147483647:=(zAv.1 h).1
theorem zFI{A b:Nat}{w:World}(B:Bk w b [txt s,.int .i64 (A:Int),.bool false] 374)(l:s.length<=4611686018427387904):
  Sp PP 225 #[.pointer (some ⟨b,0,none⟩)] w λv w' =>
   ((∃n g:Nat,RdsV rdN s A n g/\v=.int .i64 (n:Int)/\Bk w' b [txt s,.int .i64 (g:Int),.bool false] 374) \/
   (rdN (s.drop A)=none/\∃x o:Int,v=.int .i64 x/\Bk w' b [txt s,.int .i64 o,.bool true] 374))/\Fr (λi=>i=b) w w':=
 (zBY B l).mono λv w' ⟨h,f⟩=>⟨by
  rcases h with ⟨p,n,e,c,d,q⟩|⟨c,d⟩
  ·have r:p=A:=by omega
   obtain rfl:=r;exact .inl ⟨n,_,rdn_of c,d,q⟩
  ·exact .inr ⟨rdn_no λn=>c A n rfl,d⟩,f⟩
theorem zCN{A:Nat}{w:World}(g:s.length<=4611686018427387904):Sp PP 124 #[txt s,.int .i64 (A:Int)] w λv w' =>
  ((∃n d:Nat,RdsV rdN s A n d/\v=.tuple #[.int .i64 (n:Int),.int .i64 (d:Int),.bool true])\/(rdN (s.drop A)=none/\v=.tuple #[.int .i64 0,.int .i64 0,.bool false]))/\Stp w w':=
 (zCB g).mono λv w' ⟨h,f⟩=>⟨by
  rcases h with ⟨l,n,e,b,c⟩|⟨b,c⟩
  ·have o:l=A:=by omega
   obtain rfl:=o;exact .inl ⟨n,_,rdn_of b,c⟩
  ·exact .inr ⟨rdn_no λn=>b A n rfl,c⟩,f⟩
theorem zAd(s:List UInt8):(⟨s.toArray⟩:ByteArray).size=s.length:=by simp [ByteArray.size]
theorem zK5{r t:List UInt8}(h:rdN r=some (n,t)):rdT r=if n<=4000/\n<=t.length then some (t.take n,t.drop n) else none:=by unfold rdT;rw [h]
theorem zK4{r:List UInt8}(h:rdN r=none):rdT r=none:=by unfold rdT;rw [h]
theorem zH2{r t:List UInt8}(h:rdN r=some (n,t)):rdRow r=if n<=4000 then rdMany rdN n t else none:=by unfold rdRow;rw [h]
theorem zEA{r:List UInt8}(h:rdN r=none):rdRow r=none:=by unfold rdRow;rw [h]
theorem zFf{A b:Nat}{w:World}(B:Bk w b [txt s,.int .i64 (A:Int),.bool false] 374)(H:s.length<=4611686018427387904):
  Sp PP 242 #[.pointer (some ⟨b,0,none⟩)] w λv w' =>
   ((∃x z,RdsV rdT s A x z/\v=txt x/\Bk w' b [txt s,.int .i64 ((z:Nat):Int),.bool false] 374) \/
   (rdT (s.drop A)=none/\∃E:Int,v=txt []/\Bk w' b [txt s,.int .i64 E,.bool true] 374))/\Fr (λi=>i=b) w w':=by
 refine eN ?_;refine rcall (zFI B H) ?_;rintro v w1 ⟨⟨n,d,l,rfl,g⟩|⟨o,x,E,rfl,g⟩,F⟩
 case' inr =>
  refine dQ 22 λG p=>tX g rfl nf (rS g [.bool true] (zAj _) λh c f _=>?_);exact⟨.inr ⟨zK4 o,_,rfl,c⟩,(F.trans (Fr.fr p.e)).trans f⟩
 have M:=rdN_le l.2;have q:=zK5 l.2;have I:=l.1;refine dQ 22 λG p=>tX g rfl nf ?_;have C:=g.mv (w:=G);have r:=F.trans (Fr.fr (D:=λi=>i=b) p.e);refine ite (λJ=>?_) (λJ=>?_)
 ·refine rS C [.bool true] (zAj _) λh c f _=>?_;exact⟨.inr ⟨by rw [q,if_neg (by omega)],_,rfl,c⟩,r.trans f⟩
 refine tX C rfl nf (tX C rfl nf ?_);have O:=zAd s;refine rA (ite (λK=>?_) (λK=>?_))
 ·refine rS C [.bool true] (zAj _) λh c f _=>?_;exact⟨.inr ⟨by rw [q,if_neg (by rw [QR];omega)],_,rfl,c⟩,r.trans f⟩
 have t:d+n<=s.length:=by omega
 refine rX C rfl (rarE (y:=((d+n:Nat):Int)) (by omega) (by omega) (rS C [.int .i64 ((d+n:Nat):Int)] (zAa _) λh c f _=>?_));have c:Bk h b [txt s,.int .i64 ((d+n:Nat):Int),.bool false] 374:=c;refine dQ 16 λQ L=>tX c rfl nf (tX c rfl nf ?_);refine rarE (y:=((d:Nat):Int)) (by omega) (by omega) (tX c rfl nf (tssl rfl rfl (by omega) (by omega) ?_));refine⟨.inl ⟨(s.drop d).take n,d+n,⟨t,?_⟩,?_,c.mv⟩,(r.trans f).trans (Fr.fr L.e)⟩
 ·rw [q,if_pos ⟨by omega,by rw [QR];omega⟩,VZ]
 ·exact congrArg Value.string ((zBa s d (d+n)).trans (by rw [show d+n - d=n by omega]))
theorem zFV{v:Value}{w:World}:Sp PP 241 #[v] w λr w'=>r=.func (.func 242) #[v] #[]/\w'=w:=by
 refine eN ?_;exact⟨rfl,rfl⟩
theorem zFe{A:Nat}{w:World}(h:s.length<=4611686018427387904):Sp PP 240 #[txt s,.int .i64 (A:Int),.func (.func 241) #[] #[]] w λv w' =>
  ((∃x c,RdsV rdT s A x c/\v=.tuple #[txt x,.int .i64 ((c:Nat):Int),.bool true])\/(rdT (s.drop A)=none/\v=.tuple #[txt [],.int .i64 0,.bool false]))/\Stp w w':=by
 refine eN ?_;refine rbuild (cs:=[txt s,.int .i64 (A:Int),.bool false]) rfl (rbx λb w1 n1 l=>rcall (zFV) ?_);rintro _ _ ⟨rfl,rfl⟩;refine rcall (zFf l h) ?_;rintro v f ⟨⟨x,c,o,rfl,d⟩|⟨e,q,rfl,d⟩,g⟩
 ·have p:Stp w f:=n1.st g;refine rX d rfl (dQ 8 λr t=>tX d rfl nf ?_);exact⟨.inl ⟨x,c,o,rfl⟩,stp⟩
 ·have p:Stp w f:=n1.st g;refine rX d rfl ?_;exact⟨.inr ⟨e,rfl⟩,stp⟩
theorem zDi{A:Nat}{w:World}(d:s.length<=4611686018427387904):Sp PP 153 #[txt s,.int .i64 (A:Int)] w λv w' =>
  ((∃x b,RdsV rdT s A x b/\v=.tuple #[txt x,.int .i64 ((b:Nat):Int),.bool true])\/(rdT (s.drop A)=none/\v=.tuple #[txt [],.int .i64 0,.bool false]))/\Stp w w':=by
 refine eN ?_;refine rcall (zFe d) ?_;rintro v f ⟨⟨x,b,e,rfl⟩|⟨c,rfl⟩,g⟩
 ·exact⟨.inl ⟨x,b,e,rfl⟩,stp⟩
 ·exact⟨.inr ⟨c,rfl⟩,stp⟩
def intsN (l:List Nat):List Int:=l.map λn:Nat=>(n:Int)
theorem zDN{A b:Nat}{w:World}(B:Bk w b [txt s,.int .i64 (A:Int),.bool false] 374)(Z:s.length<=4611686018427387904):
  Sp PP 239 #[.pointer (some ⟨b,0,none⟩)] w λv w' =>
   ((∃l q,RdsV rdRow s A l q/\Own w.heap.size 3 w' v (intsN l)/\Bk w' b [txt s,.int .i64 ((q:Nat):Int),.bool false] 374) \/
   (rdRow (s.drop A)=none/\∃r:Int,Bk w' b [txt s,.int .i64 r,.bool true] 374))/\Fr (λi=>i=b) w w':=by
 have a0:=B.lt;refine eN ?_;refine rcall (zFI B Z) ?_;rintro v w1 ⟨⟨n,K,L,rfl,z⟩|⟨c,x,r,rfl,z⟩,M⟩
 case' inr =>
  refine rX z rfl (rS z [.bool true] (zAj _) λu3 C E _=>cO 23 [2] 3 22 0 (λk v u=>k=0/\Fr (λi=>i=b) w u/\Bk u b [txt s,.int .i64 r,.bool true] 374) ⟨rfl,M.trans E,C⟩ ?_);rintro k v g u hk ⟨rfl,o,f⟩;refine ite (λh=>?_) (λh=>⟨.inr ⟨zEA c,_,f⟩,o⟩);refine rX f rfl ?_;exact⟨.inr ⟨zEA c,_,f⟩,o⟩
 have hn:=rdN_le L.2;have J:=zH2 L.2;have Q:=L.1;refine rX z rfl (ite (λS=>?_) (λS=>?_))
 ·refine rS z [.bool true] (zAj _) λu3 C E _=>?_;have c:rdRow (s.drop A)=none:=by rw [J,if_neg (by omega)]
  refine cO 23 [2] 3 22 0 (λk v u=>k=0/\Fr (λi=>i=b) w u/\Bk u b [txt s,.int .i64 (K:Int),.bool true] 374) ⟨rfl,M.trans E,C⟩ ?_;rintro k v g u hk ⟨rfl,o,f⟩;refine ite (λh=>?_) (λh=>⟨.inr ⟨c,_,f⟩,o⟩);refine rX f rfl ?_;exact⟨.inr ⟨c,_,f⟩,o⟩
 rw [if_pos (by omega)] at J;refine rS z [.bool false] (zAj _) λu3 C E _=>?_
 refine cO 23 [2] 3 22 n (λk v u=>Fr (λi=>i=b) w u/\((∃d q,d.length=k/\q<=s.length/\Own w.heap.size 3 u v (intsN d)/\Bk u b [txt s,.int .i64 ((q:Nat):Int),.bool false] 374/\preR d (rdMany rdN (n - k) (s.drop q))=rdMany rdN n (s.drop K)) \/
   (rdRow (s.drop A)=none/\∃r:Int,Bk u b [txt s,.int .i64 r,.bool true] 374))) ⟨M.trans E,.inl ⟨[],K,rfl,Q,Own.nil _ _ _,C,by rw [zBP,JF]⟩⟩ ?_
 rintro k v g u hk ⟨o,⟨d,q,hl,T,O,f,U⟩|⟨c,r,f⟩⟩
 ·refine ite (λh=>?_) (λh=>?_)
  ·refine rX f rfl (rcall (zFI f Z) ?_);rintro v2 u1 ⟨⟨m,A2,F,rfl,V⟩|⟨c,x,r,rfl,V⟩,t⟩
   ·have O2:=O.frc t f;refine bS (m:Int) λb4 p G _ W=>?_;have y:w.heap.size<=p.heap.size:=by have S:=o.size;have h2:=t.size;have h3:=G.e.size;omega
    refine rappB ⟨rfl,rfl⟩ (O2.up (w':=p)) W y (by simp [intsN];omega) λv5 u5 O5 H=>?_;have X:=(V.mv (w:=p)).fro (O2.up (w':=p)) H;have Y:Own w.heap.size 3 u5 v5 (intsN (d++[m])):=by rw [show intsN (d++[m])=intsN d++[(m:Int)] by simp [intsN]];exact O5
    refine rA ⟨rfl,by omega,Fr.new ((o.trans t).trans (Fr.fr G.e)) H (λi hi=>hi.1),.inl ⟨d++[m],A2,by simp [hl],F.1,Y,X,?_⟩⟩;rw [<-U,show n - k=(n - (k+1))+1 by omega,zAF F.2]
   ·have I:rdRow (s.drop A)=none:=by
     rw [J,<-U,show n - k=(n - (k+1))+1 by omega,zA7 c];rfl
    refine bS (x:Int) λb4 p G _ W=>?_;have y:w.heap.size<=p.heap.size:=by have S:=o.size;have h2:=t.size;have h3:=G.e.size;omega
    refine rappB ⟨rfl,rfl⟩ ((O.frc t f).up (w':=p)) W y (by simp [intsN];omega) λv5 u5 O5 H=>?_;have X:=(V.mv (w:=p)).fro ((O.frc t f).up (w':=p)) H (by decide);exact rA ⟨rfl,by omega,Fr.new ((o.trans t).trans (Fr.fr G.e)) H (λi hi=>hi.1),.inr ⟨I,_,X⟩⟩
  ·have q_:k=n:=by omega
   obtain rfl:=q_;refine⟨.inl ⟨d,q,⟨T,?_⟩,O,f⟩,o⟩;rw [J,<-U,JN];simp [rdMany,preR]
 ·refine ite (λh=>?_) (λh=>⟨.inr ⟨c,_,f⟩,o⟩);refine rX f rfl ?_;exact⟨.inr ⟨c,_,f⟩,o⟩
theorem zEa{v:Value}{w:World}:Sp PP 238 #[v] w λr w'=>r=.func (.func 239) #[v] #[]/\w'=w:=by
 refine eN ?_;exact⟨rfl,rfl⟩
abbrev RowV (s:List UInt8) (A:Nat) (w:World) (v:Value) (w':World):Prop:=
 ((∃l A' v',RdsV rdRow s A l A'/\v=.tuple #[v',.int .i64 ((A':Nat):Int),.bool true]/\Own w.heap.size 3 w' v' (intsN l))\/(rdRow (s.drop A)=none/\v=.tuple #[.slice none 0 0,.int .i64 0,.bool false]))/\Stp w w'
theorem zGm{A:Nat}{w:World}(h:s.length<=4611686018427387904):Sp PP 237 #[txt s,.int .i64 (A:Int),.func (.func 238) #[] #[]] w (RowV s A w):=by
 refine eN ?_;refine rbuild (cs:=[txt s,.int .i64 (A:Int),.bool false]) rfl (rbx λb w1 n1 o=>rcall (zEa) ?_);rintro _ d ⟨rfl,rfl⟩;refine rcall (zDN o h) ?_;rintro v f ⟨⟨l,p,q,O,c⟩|⟨e,x,c⟩,g⟩
 ·have r:Stp w f:=n1.st g;refine rX c rfl (dQ 8 λt y=>tX c rfl nf ?_);exact⟨.inl ⟨l,p,_,q,rfl,(O.up (w':=t)).mono (lz w d)⟩,stp⟩
 ·have r:Stp w f:=n1.st g;refine rX c rfl ?_;exact⟨.inr ⟨e,rfl⟩,stp⟩
theorem zFd{A:Nat}{w:World}(c:s.length<=4611686018427387904):Sp PP 151 #[txt s,.int .i64 (A:Int)] w (RowV s A w):=by
 refine eN ?_;refine rcall (zGm c) ?_;rintro v g ⟨⟨l,d,e,f,rfl,O⟩|⟨b,rfl⟩,h⟩
 ·exact⟨.inl ⟨l,d,e,f,rfl,O⟩,stp⟩
 ·exact⟨.inr ⟨b,rfl⟩,stp⟩
section
variable {P:Program} {α:Type} [Enc α] [DecidableEq α] {t:TypeId}
theorem findAsk(Q:EqT P t α)(k:α)(w:World):∀(c:List MapEntry) (m:List (α×Value)) (i:Nat),EntM agg c m->(Instr.findAsking t (agg k) c i).run P w=.ok (findM k m i) w
 |[],m,i,h=>by rw [zDR h];rfl
 |e::c,m,i,h=>by
  have d:=zEm h;obtain⟨g,r,rfl,o,p⟩:=d;have q:=findAsk Q k w c r (i+1) p;unfold Instr.findAsking findM;rw [o];have d:=Q.eq 9992 k g w;obtain⟨b,v,l⟩:=d;have f:(Op.equal t (agg k) (agg g)).run P w=.ok b w:=v;simp only [Qo,f,Qh]
  cases b with
  |true=>rw [if_pos rfl,if_pos (l.1 rfl)];rfl
  |false=>rw [if_neg (by simp),if_neg (λe=>by have:=l.2 e;cases this)];exact q
@[reducible] def mkStc {fs:Array Field} (Q:EqT P t α) (hu:P.underlying t=some (.struct fs)) (hc:∀(e:Bool) (k:α) (w:World),(Instr.checkKey e 10000 t (agg k)).run P w=.ok () w) (hs:∀k:α,Instr.sameBits 10000 (agg k) (agg k)=true):MKey P t α where
 val:=agg
 check:=hc
 find k es m w h:=by
  unfold Instr.findKey
  simp only [underlying,Sem.run_bind,run_program,Result.andThen_ok,hu,Sem.run_pure]
  cases es with
  |nil=>rw [zDR h];rfl
  |cons e r =>
   have:Instr.findNow (.struct fs) (agg k) (e::r) 0=none:=by
    unfold Instr.findNow
    rfl
   rw [this]
   exact findAsk Q k w _ _ _ h
 same:=hs
end
theorem rlookE{kt:TypeId}{κ:Type}[DecidableEq κ][M:MKey P kt κ]{k:Value->World->Prop}{f:List PanicEntry->World->Prop}{w:World}{t e:TypeId}{z:Value}{sz c:Nat}[p:MapT P t kt e][q:Elem P e z sz c]{b:Nat}{m:List (κ×Value)}{d:Value}(h:MapL P kt w b m)(x:κ)(g:d=M.val x){v:Value}(l:(getM m x).getD z=v)(o:k v w):SemV P (Instr.lookup t (.map (some b)) d false) k f w:=by
 subst l;exact rlook h x g o
theorem zO9(k:KeyD):Instr.sameBits 10000 (agg k) (agg k)=true:=by
 show Instr.sameBits 10000 (.agg #[.int .i64 k.slot,.int .i64 k.dir,.int .i64 k.v]) (.agg #[.int .i64 k.slot,.int .i64 k.dir,.int .i64 k.v])=true;simp [Instr.sameBits]
theorem zNd{t ti:TypeId}{fs:Array Field}{q:IntKind}(g:P.underlying t=some (.struct fs))(h:One P ti)(hi:P.underlying ti=some (.int q))(xs:Array Value)
  (b : fs.toList.all (λf => f.name != "_" && f.type == ti && decide (f.offset < xs.size)) = true)(e : Bool)(w : World) : (Instr.checkKey e 10000 t (.agg xs)).run P w = .ok () w := by
 rw [show (10000:Nat)=9999+1 from rfl,Instr.checkKey];simp only [Qo,run_underlying g,Qh];rw [<-Array.forIn_toList];generalize fs.toList=L at b
 induction L with
 |nil=>simp
 |cons f L l =>
  rw [Ye,Qz] at b;obtain⟨c,p⟩:=b;simp only [Qz,bne_iff_ne,ne_eq,beq_iff_eq,decide_eq_true_eq] at c;obtain⟨⟨r,d⟩,z⟩:=c;have x:=zHc (P:=P) (d ▸ h) (cs:=xs) (o:=f.offset) (v:=xs[f.offset]) (by simp) w
  have y:(Instr.checkKey e 9999 f.type xs[f.offset]).run P w=.ok () w:=by
   rw [d,show (9999:Nat)=9998+1 from rfl,Instr.checkKey];simp only [Qo,run_underlying hi,Qh];rfl
  simp only [List.forIn_cons,Qo,r,ne_eq,not_false_eq_true,if_true,Qh,x,y,Jd];exact l p
theorem zN7(e:Bool)(k:KeyD)(w:World):(Instr.checkKey e 10000 209 (agg k)).run PP w=.ok () w:=
 zNd (ti:=3) (q:=.i64) (fs:=Program.fieldsOf PP 209) (by kernel_rfl) inferInstance (by kernel_rfl) _ (by kernel_rfl) e w
noncomputable instance:MKey PP 209 KeyD:=mkStc (fs:=Program.fieldsOf PP 209) inferInstance (by kernel_rfl) zN7 zO9
theorem zPr{l:List Int}(b:k<l.length):(l.drop (l.length - (k+1))).reverse=(l.drop (l.length - k)).reverse++[l[l.length - 1 - k]]:=by
 have e:l.length - (k+1)=l.length - 1 - k:=by omega
 rw [e,JS (by omega),List.reverse_cons,show l.length - 1 - k+1=l.length - k by omega]
section
variable {P:Program} {k:Value->World->Prop} {pn:List PanicEntry->World->Prop} {w:World}
theorem rarU{x:Int}(b:∀y,((-9223372036854775808<=x/\x<=9223372036854775807)->y=x)->k (.int .i64 y) w):ArS .i64 x k w:=by
 rw [zDO];exact b _ λh=>zBZ h.1 h.2
theorem rixAI{t e:TypeId}{z:Value}{sz c:Nat}[d:ArrT P t N e][f:Elem P e z sz c]{b o:Nat}{i:Int}(h0:0<=i)(g:i<N)(h:k (.pointer (some ⟨b,o+i.toNat*sz,none⟩)) w):
  SemV P (Instr.indexAt t (.pointer (some ⟨b,o,none⟩)) (.int .i64 i)) k pn w:=SemV.of (zLd d f h0 g w) h
end
theorem zBh{c:Nat}{l:List Int}{w:World}(h:SlF w (.slice a n c) l)(p:l.length<=1000000):
  Sp PP 291 #[.slice a n c] w λv w'=>Own w.heap.size 3 w' v l/\Stp w w':=by
 have e:=h.len;obtain rfl:=e;refine eN ?_;refine rsnil (λh0=>?_) (λh0=>?_)
 ·obtain⟨q,r,f,t,g⟩:=h;cases f;have:l=[]:=by rcases g with h|⟨b,o,h,_⟩;exact h;rw [h0] at h;cases h
  subst this;exact⟨Own.nil _ _ _,stp⟩
 ·refine rbs (n:=0) (vs:=[]) ([]:List Int) rfl rfl rfl (by omega) λb w1 n1 x=>rapp (u:=w) ⟨rfl,rfl⟩ (Own.nil' w.heap.size 3 w1 _) h.up (by simp;omega) λy z d A C=>?_;rw [Je] at d;exact⟨d,stp⟩
theorem zJ0{c:Nat}{l:List Int}{x:Int}{w:World}(h:SlF w (.slice a n c) l)(z:l.length<=1000000):
  Sp PP 358 #[.slice a n c,.int .i64 x] w λv w'=>(∃i:Int,v=.int .i64 i/\(0<=i↔x∈l))/\Stp w w':=by
 have d:=h.len;obtain rfl:=d;refine eN ?_;refine cN 8 [4,5] 8 l.length (λk w'=>(∀j,j<k->¬l[j]? = some x)/\Stp w w') ⟨by omega,stp⟩ ?_;rintro k g w' A ⟨o,e⟩;refine ite (λhlt=>?_) (λp=>?_)
 ·have b:k<l.length:=by omega
  refine rix h.up (x:=l[k]) (by simp) λC E q=>rload1 (q.cell0 rfl) (ite (λr=>?_) (λf=>?_))
  ·exact⟨⟨_,rfl,⟨λ_=>by rw [r];exact Qa b,λ_=>by omega⟩⟩,stp⟩
  ·exact rA ⟨rfl,b,below o (by simpa [b] using Jq f),stp⟩
 ·have d:k=l.length:=by omega
  obtain rfl:=d;refine⟨⟨_,rfl,⟨λh=>absurd h (by decide),λt=>?_⟩⟩,stp⟩;have d:=QI.1 t;obtain⟨j,y,rfl⟩:=d;exact absurd (by simp) (o j y)
theorem zDl{c:Nat}{l:List Int}{x:Int}{w:World}(h:SlF w (.slice a n c) l)(b:l.length<=1000000):
  Sp PP 284 #[.slice a n c,.int .i64 x] w λv w'=>Tells (x∈l) v/\Stp w w':=by
 refine eN ?_;refine rcall (zJ0 h b) ?_;rintro v w1 ⟨⟨i,rfl,hi⟩,e⟩;exact ite (λh=>⟨.t (hi.1 h),stp⟩) (λh=>⟨.f λd=>h (hi.2 d),stp⟩)
def markC (s:List Int):List Value:=(List.range 400).map λi:Nat=>Value.bool (decide ((i:Int)∈s))
theorem zJe(s:List Int):(markC s).length=400:=by simp [markC]
theorem zOc(s:List Int){i:Int}(h0:0<=i)(b:i<400):(markC s)[i.toNat]? = some (.bool (decide (i∈s))):=by
 unfold markC;rw [QK,VS (by omega)];simp [Jh h0]
theorem zOe(s:List Int){i:Int}(h0:0<=i)(c:i<400):splice (markC s) i.toNat [.bool true]=markC (s++[i]):=by
 rw [splice1 _ _ _ (by rw [zJe];omega)];refine Vl λj=>?_;rw [Vw];unfold markC;simp only [QK,Qr,Vm];by_cases b:j<400
 ·rw [VS b];by_cases e:i.toNat=j
  ·have:(j:Int)=i:=by omega
   simp [e,b,this]
  ·have:(j:Int)≠i:=by omega
   simp [e,this]
 ·have:¬i.toNat=j:=by omega
  rw [if_neg this,Jg (by simpa using b)];rfl
theorem zOd:(Value.agg (Array.replicate 400 (Value.bool false))).cells.toList=markC []:=by kernel_rfl
theorem zEW{sz:Int}{c:Nat}{l:List Int}{w:World}(h:SlF w (.slice a n c) l)(Y:l.length<=1000000):
  Sp PP 290 #[plV sz a n c] w λv w'=>Tells (okP sz l) v/\Stp w w':=by
 have r:=h.len;obtain rfl:=r;refine eN ?_;refine rbx λZ w1 n1 G=>ral λK w2 n2 C=>?_;rw [zOd] at C;refine rld rfl ?_;refine cN 9 [2,5] 9 l.length (λk u=>(∀j,j<k->(hl:j<l.length)->0<=l[j]/\l[j]<sz)/\(l.take k).Nodup/\Bk u K (markC (l.take k)) 420/\Stp w1 u) ⟨by omega,by simp,by rw [Xa];exact C,stp⟩ ?_;rintro k g u hk ⟨y,q,H,e⟩;clear C;refine ite (λhlt=>?_) (λL=>?_)
 ·have d:k<l.length:=by omega
  refine rix (h.up (w':=u)) (x:=l[k]) (by simp) λb4 o4 M=>rload1 (M.cell0 rfl) (ite (λO=>⟨.f λo=>by have:=o.2.2.1 _ (Qa d);omega,stp⟩) (λO=>?_));refine rld rfl ?_;refine ite (λQ=>⟨.f λo=>by have:=o.2.2.1 _ (Qa d);omega,stp⟩) (λQ=>?_);refine ite (λS=>⟨.f λo=>by have:=o.2.2.1 _ (Qa d);have:=o.2.1;omega,stp⟩) (λS=>?_);refine rixAI (by omega) (by omega) ?_;refine rldK (B:=H) (v:=.bool (decide (l[k]∈l.take k))) (by rw [JO,Xq];exact zOc _ (by omega) (by omega)) ?_;by_cases A:l[k]∈l.take k
  ·rw [decide_eq_true A];refine⟨.f λo=>?_,stp⟩;have p:(l.take (k+1)).Nodup:=o.2.2.2.sublist (List.take_sublist _ _);rw [take_add d,JU] at p;exact p.2.2 _ A l[k] (by simp) rfl
  ·rw [decide_eq_false A];refine rixAI (by omega) (by omega) ?_;refine rstK (B:=H) (vs:=[.bool true]) rfl rfl (by rw [zJe];simp only [VC];omega) (by simp;rfl) λT I U _=>?_;have V:Stp w1 T:=n2.st U;rw [JO,Xq,zOe _ (by omega) (by omega),<-take_add d] at I;refine rA ⟨rfl,d,below2 y λ_=>⟨by omega,by omega⟩,?_,I,V⟩;rw [take_add d,JU];exact⟨q,by simp,λa W b y=>by simp only [Qc] at y;subst y;exact λe=>A (e ▸ W)⟩
 ·have r:k=l.length:=by omega
  obtain rfl:=r;rw [Qg] at q
  have z:∀x∈l,0<=x/\x<sz:=λx X=>by
   have r:=QI.1 X;obtain⟨j,J,rfl⟩:=r;exact y j J J
  refine rX G rfl (ite (λE=>?_) (λE=>⟨.f λo=>E o.1,stp⟩));refine rX G rfl ?_;exact ite (λF=>⟨.t ⟨E,F,z,q⟩,stp⟩) (λF=>⟨.f λo=>F o.2.1,stp⟩)
theorem zLP{size:Int}{w:World}:Sp PP 96 #[.int .i64 size] w λv w'=>(∃y,v=.tuple #[y,.int .i64 (newP size).2]/\PoolO w.heap.size w' y (newP size).1)/\Stp w w':=by
 refine eN ?_;refine ral λb1 w1 n1 M=>?_;unfold newP;refine ite (λz=>?_) (λz=>?_)
 ·rw [if_pos (.inl z)];refine rbuild (cs:=[.int .i64 0,.slice none 0 0]) rfl (rsto (vs:=[.int .i64 0,.slice none 0 0]) rfl rfl rfl (pl_one _ _ _ _) λh A l _=>?_);have Q:Stp w h:=n1.st l;refine rresG rfl ?_;exact⟨⟨_,rfl,zP_o _ _⟩,stp⟩
 refine ite (λC=>?_) (λC=>?_)
 ·rw [if_pos (.inr C)];refine rbuild (cs:=[.int .i64 0,.slice none 0 0]) rfl (rsto (vs:=[.int .i64 0,.slice none 0 0]) rfl rfl rfl (pl_one _ _ _ _) λh A l _=>?_);have Q:Stp w h:=n1.st l;refine rresG rfl ?_;exact⟨⟨_,rfl,zP_o _ _⟩,stp⟩
 rw [if_neg (by omega)];have o:=QU (show (0:Int)<=size by omega);obtain⟨N,rfl⟩:=o;rw [QW];have S:=zCO N;refine rbuild (cs:=[.int .i64 (N:Nat),.slice none 0 0]) rfl (ral λT h n2 A=>rsto (vs:=[.int .i64 (N:Nat),.slice none 0 0]) rfl rfl rfl (pl_one _ _ _ _) λU E V _=>?_);have s3:Stp w1 U:=n2.st V;refine cN 16 [5] 16 N (λk u=>∃a c,Bk u T [.int .i64 (N:Nat),.slice a k c] 172/\Own w1.heap.size 3 u (.slice a k c) ((downTo N).take k)/\Stp w1 u) ⟨none,0,E,Own.nil _ _ _,stp⟩ ?_;rintro k g u hk ⟨a,c,p,O,e⟩;clear E;refine ite (λhlt=>?_) (λW=>?_)
 ·have b:k<N:=by omega
  refine rX p rfl (rA (rA ?_));refine bS ((N:Int) - 1 - k) λb4 X e4 _ Y=>rapp1 (u:=w1) ⟨rfl,rfl⟩ O.up Y (by rw [Qm];omega) λv5 w5 q Z s5=>?_;have d:=(p.mv (w:=X)).fro O.up Z
  have r:((downTo N).take k++[((N:Int) - 1 - k)])=(downTo N).take (k+1):=by
   rw [zLE b,show (((N - 1 - k:Nat)):Int)=(N:Int) - 1 - k by omega]
  rw [r] at q;have t:((downTo N).take (k+1)).length=k+1:=by rw [Qm];omega
  have F:=q.shape;rw [t] at F;obtain⟨G,H,rfl⟩:=F;refine rS d [.slice G (k+1) H] (by simp;rfl) λx I f _=>?_;have J:Stp w1 x:=n2.st f;exact rA ⟨rfl,b,G,H,I,q.frc f d,J⟩
 ·have o:k=N:=by omega
  obtain rfl:=o;refine rldG (B:=p) rfl rfl ?_;have K:=M.mv (w:=u);refine rS K [.int .i64 (k:Nat),.slice a k c] (pl_one _ _ _ _) λx I f _=>?_;have J:Stp w x:=n1.st f;refine rresG rfl ?_;have L:=O.frc f K;rw [Qj (by omega)] at L;exact⟨⟨_,rfl,(PoolO.mk L).older⟩,stp⟩
theorem zKG{sz m:Int}{c:Nat}{l:List Int}{w:World}(h:SlF w (.slice a n c) l)(hn:l.length<=100000):
  Sp PP 206 #[plV sz a n c,.int .i64 m] w λv w'=>(∃p,v=.tuple #[p,.int .i64 (giveP (sz,l) m).2]/\PoolO w.heap.size w' p (giveP (sz,l) m).1)/\Stp w w':=by
 have q:=h.len;obtain rfl:=q;refine eN ?_;refine rbx λb1 w1 n1 B1=>ral λH r n2 T=>?_;have U:=n1.b;have V:=n2.b;have W:=n1.s;have X:=n2.s
 have zero:∀(e:Int) (u:World),Stp r u->giveP (sz,l) m=(zP,e)->∀d,Bk d H [.int .i64 0,.slice none 0 0] 172->Fr (λi=>i=H) u d->(∃p,Value.tuple #[plV 0 none 0 0,.int .i64 e]=.tuple #[p,.int .i64 (giveP (sz,l) m).2]/\PoolO w.heap.size d p (giveP (sz,l) m).1)/\Stp w d:=by
  intro e u s Y d _ f;rw [Y];exact⟨⟨_,rfl,zP_o _ _⟩,n2.st f⟩
 refine rldG rfl rfl ?_;refine rcall (zEW (h.up (w':=r)) (by omega)) ?_;rintro v Z ⟨⟨rfl,o⟩|⟨rfl,o⟩,e3⟩
 ·refine ite (λC=>?_) (λC=>?_)
  ·refine rbuild (cs:=[.int .i64 0,.slice none 0 0]) rfl ?_;refine rsto (vs:=[.int .i64 0,.slice none 0 0]) rfl rfl rfl (pl_one _ _ _ _) λd t f _=>?_;refine rresG rfl ?_;exact zero 1 _ stp (by unfold giveP;rw [if_pos o,if_pos (.inl C)]) d t f
  refine rld rfl ?_;refine ite (λE=>?_) (λE=>?_)
  ·refine rbuild (cs:=[.int .i64 0,.slice none 0 0]) rfl ?_;refine rsto (vs:=[.int .i64 0,.slice none 0 0]) rfl rfl rfl (pl_one _ _ _ _) λd t f _=>?_;refine rresG rfl ?_;exact zero 1 _ stp (by unfold giveP;rw [if_pos o,if_pos (.inr E)]) d t f
  refine rld rfl ?_;refine rcall (zDl (h.up (w':=Z)) (by omega)) ?_;rintro v d ⟨⟨rfl,hi⟩|⟨rfl,hi⟩,e4⟩
  ·refine rbuild (cs:=[.int .i64 0,.slice none 0 0]) rfl ?_;refine rsto (vs:=[.int .i64 0,.slice none 0 0]) rfl rfl rfl (pl_one _ _ _ _) λF B5 f5 _=>?_;refine rresG rfl ?_;exact zero 150 _ stp (by unfold giveP;rw [if_pos o,if_neg (λh=>h.elim C E),if_pos hi]) F B5 f5
  ·have hg:giveP (sz,l) m=((sz,l++[m]),0):=by unfold giveP;rw [if_pos o,if_neg (λh=>h.elim C E),if_neg hi]
   rw [hg];refine dT (λi=>i=H\/r.heap.size<=i) (oL [0,1,2,3,5] (.two 4 (oL [6,7,8,9,10] .nil) 6 (oL [4,7,8,9,10] .nil))) λI e1=>?_;refine tld rfl (by omega) ?_;refine tld rfl (by omega) ?_;refine⟨?_,?_⟩
   ·refine rcall (zBh (h.up (w':=I)) (by omega)) ?_;rintro v F ⟨J,K⟩;refine⟨K.e.fr,?_⟩;refine bS m λb6 G L _ M=>⟨L.e.fr,?_⟩;refine rapp1 (u:=I) ⟨rfl,rfl⟩ J.up M (by omega) λv7 O x f7 Q=>⟨Q.e.mono λi _ hi=>.inr (Qw (lz r I) hi),?_⟩;have q:=x.shape;obtain⟨y,z,rfl⟩:=q;refine tbuild (cs:=[.int .i64 sz,.slice y (l++[m]).length z]) rfl ?_;have A:=T.mv (w:=O);refine rS A [.int .i64 sz,.slice y (l++[m]).length z] (pl_one _ _ _ _) λS B8 g _=>?_;have s8:Stp w S:=n2.st g;refine⟨g.mono λi _ hi=>.inl hi,?_⟩;refine rresG rfl ?_;exact⟨⟨_,rfl,(PoolO.mk (x.frc g A)).older⟩,stp⟩
   ·refine bS m λb6 G L _ M=>⟨L.e.fr,?_⟩;refine rcall (zBh (h.up (w':=G)) (by omega)) ?_;rintro v F ⟨J,K⟩;refine⟨K.e.fr,?_⟩;refine rapp1 (u:=G) ⟨rfl,rfl⟩ J.up (M.up (w':=F)) (by omega) λv7 O x f7 Q=>⟨Q.e.mono λi _ hi=>.inr (Qw (lz r G) hi),?_⟩;have q:=x.shape;obtain⟨y,z,rfl⟩:=q;refine tbuild (cs:=[.int .i64 sz,.slice y (l++[m]).length z]) rfl ?_;have A:=T.mv (w:=O);refine rS A [.int .i64 sz,.slice y (l++[m]).length z] (pl_one _ _ _ _) λS B8 g _=>?_;have s8:Stp w S:=n2.st g;refine⟨g.mono λi _ hi=>.inl hi,?_⟩;refine rresG rfl ?_;exact⟨⟨_,rfl,(PoolO.mk (x.frc g A)).older⟩,stp⟩
 ·refine rbuild (cs:=[.int .i64 0,.slice none 0 0]) rfl ?_;refine rsto (vs:=[.int .i64 0,.slice none 0 0]) rfl rfl rfl (pl_one _ _ _ _) λd t f _=>?_;refine rresG rfl ?_;exact zero 130 _ stp (by unfold giveP;rw [if_neg o]) d t f
def backXs (l:List Int):List (List Value):=(List.range l.length).reverse.map λi:Nat=>[.int .i64 i,.int .i64 (l.getD i 0)]
theorem zEf(l:List Int):(backXs l).length=l.length:=by simp [backXs]
theorem zNb{l:List Int}:∀x∈backXs l,x.length=2:=by
 intro x b;unfold backXs at b;obtain⟨k,_,rfl⟩:=Qq.1 b;rfl
theorem zHv{l:List Int}(h:k<l.length):(backXs l)[k]? = some [.int .i64 ((l.length - 1 - k:Nat):Int),.int .i64 (l[l.length - 1 - k]'(by omega))]:=by
 unfold backXs;rw [QK,List.getElem?_reverse (by simpa using h),Vm,VS (by omega)];simp only [JD,zAq (show l.length - 1 - k<l.length by omega)]
structure BackDat (l:List Int) (a:Option Addr) (c bs:Nat) (u:World):Prop where
 s:SlF u (.slice a l.length c) l
 b:Bk u bs [.slice a l.length c] 34
theorem zOH{l:List Int}{c bs:Nat}(E:l.length<=1000000):
  SeqOf PP 420 [] [.pointer (some ⟨bs,0,none⟩)] (BackDat l a c bs) (backXs l):=by
 refine⟨λy J F w G t r z h0=>?_⟩;refine eN ?_;refine rload1 ((r 0 w h0).b.at.cell0 rfl) (rA (loop1 TBok 4 [] 3 (λv u=>∃k:Nat,k<=l.length/\∃j:Int,v=.int .i64 j/\j=(l.length:Int) - 1 - k/\J k u) (λv _=>((Go.RowKit.intOf v)+1).toNat) rfl ⟨0,by omega,_,rfl,by omega,h0⟩ ?_));rintro v g u ⟨k,H,j,rfl,I,d⟩;refine ite (λh=>?_) (λhlt=>?_)
 ·have o:=QU h;obtain⟨f,rfl⟩:=o;have p:k<l.length:=by omega
  have q:f=l.length - 1 - k:=by omega
  have hd:=r _ _ d;refine rload1 (hd.b.at.cell0 rfl) (rix hd.s (x:=l[f]'(by omega)) (by simp) λK L A=>rload1 (A.cell0 rfl) ?_);have C:(backXs l)[k]? = some [.int .i64 (f:Nat),.int .i64 (l[f]'(by omega))]:=by subst q;exact zHv p
  refine ryield rfl rfl rfl rfl (z k u _ C d) ?_;rintro b u' (⟨rfl,e⟩|⟨rfl,e⟩)
  ·refine rA ⟨⟨k+1,by omega,_,rfl,by omega,e⟩,?_⟩;show (((f:Int) - 1)+1).toNat<((f:Int)+1).toNat;omega
  ·exact .inr e
 ·have o:k=l.length:=by omega
  obtain rfl:=o;rw [<-zEf l] at d;exact .inl d
theorem zLA{c:Nat}{l:List Int}{w:World}(h:SlF w (.slice a n c) l):
  Sp PP 381 #[.slice a n c] w λv w'=>(∃bs,v=.func (.func 420) #[] #[.pointer (some ⟨bs,0,none⟩)]/\w.heap.size<=bs/\BackDat l a c bs w')/\Stp w w':=by
 have b:=h.len;obtain rfl:=b;refine eN ?_;refine rbx λd w1 n1 e=>?_;exact⟨⟨d,rfl,n1.lo,h.up,e.mv⟩,stp⟩
theorem takeX{l:List Int}{y:List Value}(c:m<=l.length)(h:(backXs (l.drop m))[k]? = some y):∃b:k<l.length - m,y=[.int .i64 (((l.length - m) - 1 - k:Nat):Int),.int .i64 (l[l.length - 1 - k]'(by omega))]/\(l.drop (l.length - (k+1))).reverse=(l.drop (l.length - k)).reverse++[l[l.length - 1 - k]'(by omega)]:=by
 have b:=(Qy.1 h).1;rw [zEf,QR] at b;refine⟨b,?_,zPr (by omega)⟩;rw [zHv (by rw [QR];exact b)] at h;injection h with h;subst h;have e:m+(l.length - m - 1 - k)=l.length - 1 - k:=by omega
 simp only [QR,Yf,e]
theorem zJG{sz m:Int}{c:Nat}{l:List Int}{w:World}(h:SlF w (.slice a n c) l)(hn:l.length<=100000)(hm:-9223372036854775808<=m/\m<=9223372036854775807):
  Sp PP 354 #[plV sz a n c,.int .i64 m] w λv w'=>(∃lv E,v=.tuple #[lv,E,.int .i64 (takesP (sz,l) m).2.2]/\Own w.heap.size 3 w' lv (takesP (sz,l) m).1/\PoolO w.heap.size w' E (takesP (sz,l) m).2.1)/\Stp w w':=by
 have t:=h.len;obtain rfl:=t;refine eN ?_;refine rbx λb1 w1 n1 B1=>ral λO Q n2 B3=>?_;have a1:=n1.b;have a3:=n2.b;have a4:=n1.s;have a5:=n2.s
 have zero:∀(e:Int) (u:World),Stp Q u->takesP (sz,l) m=([],zP,e)->∀d,Bk d O [.int .i64 0,.slice none 0 0] 172->Fr (λi=>i=O) u d->(∃lv E,Value.tuple #[.slice none 0 0,plV 0 none 0 0,.int .i64 e]=.tuple #[lv,E,.int .i64 (takesP (sz,l) m).2.2]/\Own w.heap.size 3 d lv (takesP (sz,l) m).1/\PoolO w.heap.size d E (takesP (sz,l) m).2.1)/\Stp w d:=by
  intro e u s S d _ x;rw [S];exact⟨⟨_,_,rfl,Own.nil _ _ _,zP_o _ _⟩,n2.st x⟩
 refine rld rfl ?_;refine rarU λleft o=>?_;refine rldG rfl rfl ?_;refine rcall (zEW (h.up (w':=Q)) (by omega)) ?_;rintro v p ⟨⟨rfl,F⟩|⟨rfl,F⟩,e3⟩
 ·refine ite (λJ=>?_) (λJ=>?_)
  ·refine rbuild (cs:=[.int .i64 0,.slice none 0 0]) rfl ?_;refine rsto (vs:=[.int .i64 0,.slice none 0 0]) rfl rfl rfl (pl_one _ _ _ _) λd z x _=>?_;refine rresG rfl ?_;exact zero 1 _ stp (by unfold takesP;rw [if_pos F,if_pos J]) d z x
  have o:=o (by omega);refine ite (λh2=>?_) (λh2=>?_)
  ·refine rbuild (cs:=[.int .i64 0,.slice none 0 0]) rfl ?_;refine rsto (vs:=[.int .i64 0,.slice none 0 0]) rfl rfl rfl (pl_one _ _ _ _) λd z x _=>?_;refine rresG rfl ?_;exact zero 140 _ stp (by unfold takesP;rw [if_pos F,if_neg J,if_pos (by dsimp only;omega)]) d z x
  have t:=QU (show (0:Int)<=m by omega);obtain⟨M,rfl⟩:=t;have t:=QU (show (0:Int)<=left by omega);obtain⟨K,rfl⟩:=t;have hK:K=l.length - M:=by omega
  have A:K<=l.length:=by omega
  have S:takesP (sz,l) (M:Nat)=((l.drop (l.length - M)).reverse,(sz,l.take K),0):=by
   unfold takesP;rw [if_pos F,if_neg J,if_neg (by dsimp only;omega),hK];rfl
  rw [S];refine ral λb4 d T z=>?_;have a6:=T.b;have a9:=T.s;have z3:=lz Q p;refine rld rfl ?_;refine rslB (some K) none h A (by simp) λU V W=>?_;rw [zBB] at W;refine rcall (zLA (W.up (w':=d))) ?_;rintro v X ⟨⟨bs,rfl,b0,D5⟩,e5⟩;have z5:=lz d X;have C4:=z.mv (w:=X);have G:(l.drop K).length=l.length - K:=by simp
  have Y:SlF w (.slice U (l.drop K).length V) (l.drop K):=by rw [G];exact W
  have T0:∀i,i<=M->(l.drop (l.length - i)).reverse.length=i:=λi hi=>by rw [List.length_reverse,QR];omega
  refine rrange TBok rfl (gf:=420) (first:=[]) (cap:=[.pointer (some ⟨bs,0,none⟩)]) rfl rfl (zOH (l:=l.drop K) (a:=U) (c:=V) (bs:=bs) (by simp;omega)) zNb
   (λi u=>i<=M/\∃oa oc,Bk u b4 [.slice oa i oc] 34/\Bk u bs [.slice U (l.drop K).length V] 34/\Own p.heap.size 3 u (.slice oa i oc) (l.drop (l.length - i)).reverse/\Stp p u) (λ_ _=>False) ?_ ?_ ?_
   ⟨by omega,none,0,C4,D5.b,by have:=Own.nil (α:=Int) p.heap.size 3 X;simpa using this,stp⟩ ?_ ?_ ?_
  ·rintro i u u' ⟨hi,oa,oc,f,r,g,C⟩ q;exact⟨hi,oa,oc,f.qt q,r.qt q,g.qt q,C.qt (q.mono (by omega))⟩
  ·rintro _ u u' h;exact h.elim
  ·rintro i u ⟨hi,oa,oc,f,r,g,C⟩;exact⟨Y.up,r⟩
  ·rintro i y u hx ⟨hi,oa,oc,f,r,g,C⟩;have hy:=takeX A hx;obtain⟨b2,rfl,H⟩:=hy;refine⟨Fr.refl _ _,λu1 q=>?_⟩;have f:=f.qt q;have r:=r.qt q;have g:=g.qt q;have C:=C.qt (q.mono (by omega));refine rX f rfl ?_;refine bS (l[l.length - 1 - i]'(by omega)) λb6 Z e6 _ S6=>?_;refine rapp1 (u:=p) ⟨rfl,rfl⟩ (g.up (w':=Z)) S6 (by rw [T0 i hi];omega) λv7 w7 O7 f7 s7=>?_;have r1:=(f.mv (w:=Z)).fro g.up f7;have r2:=(r.mv (w:=Z)).fro g.up f7;rw [<-H] at O7;have q7:=O7.shape;rw [T0 (i+1) (by omega)] at q7;obtain⟨a7,c7,rfl⟩:=q7;refine rS r1 [.slice a7 (i+1) c7] (by simp;rfl) λw8 B8 L _=>?_;have s8:Stp p w8:=T.st L;exact⟨⟨by omega,a7,c7,B8,r2.fr L (by omega),O7.frc L r1,s8⟩,λi=>p.heap.size<=i,((Fr.fr e6.e).trans s7.e).trans (L.mono λi _ hi=>by subst hi;omega)⟩
  ·rintro D u ⟨hi,oa,oc,f,r,g,C⟩ hD hd;rw [zEf,G] at hi f g;have hM:l.length - K=M:=by omega
   rw [hM] at hi f g;refine dD (λi=>i=O\/u.heap.size<=i) (upF 12 0) λu1 e1=>?_;have zu:=lz p u;have zb:=f.lt;refine tX f rfl (by omega) ?_;refine tld rfl (by omega) (tld rfl (by omega) ?_);refine tslB none (some K) h (by simp) (by simpa using A) λa8 c8 S8=>?_;rw [zCX] at S8;refine rcall (zBh (S8.up (w':=u1)) (by rw [Qm];omega)) ?_;rintro v u2 ⟨O2,e2⟩;refine⟨e2.e.fr,?_⟩;have t:=O2.shape;obtain⟨a2,c2,rfl⟩:=t;refine tbuild (cs:=[.int .i64 sz,.slice a2 (l.take K).length c2]) rfl ?_;have C3:=B3.mv (w:=u2);refine rS C3 [.int .i64 sz,.slice a2 (l.take K).length c2] (pl_one _ _ _ _) λw9 B9 I _=>?_;have s9:Stp w w9:=n2.st I;refine⟨I.mono λi _ hi=>.inl hi,?_⟩;have a0:=I.nc _ _ (e2.e.nc _ _ (e1.e.nc _ _ hd rfl) rfl) rfl;have Oo:=((g.up (w':=u2)).frc I C3);have Op:=O2.frc I C3;refine leave1 a0 λu' q=>?_;have b3:=B9.qt (q 0 (by omega));refine rresG rfl ?_;exact⟨⟨_,_,rfl,(Oo.qt (q 0 (by omega))).older,(PoolO.mk (Op.qt (q 0 (by omega)))).older⟩,s9.qt (q _ (by have:=lz w p;omega))⟩
  ·rintro c D u h;exact h.elim
 ·refine rbuild (cs:=[.int .i64 0,.slice none 0 0]) rfl ?_;refine rsto (vs:=[.int .i64 0,.slice none 0 0]) rfl rfl rfl (pl_one _ _ _ _) λd z x _=>?_;refine rresG rfl ?_;exact zero 130 _ stp (by unfold takesP;rw [if_neg F]) d z x
theorem zMm(sz:Int)(l:List Int):(takeP (sz,l)).2.2=(takesP (sz,l) 1).2.2 /\
  ((takesP (sz,l) 1).2.2=0->(takesP (sz,l) 1).1[0]? = some (takeP (sz,l)).1/\(takesP (sz,l) 1).2.1=(takeP (sz,l)).2.1) /\
  ((takesP (sz,l) 1).2.2≠0->takeP (sz,l)=(0,zP,(takesP (sz,l) 1).2.2)):=by
 unfold takeP takesP;by_cases b:okP sz l
 ·rw [if_pos b,if_pos b,if_neg (by decide)];by_cases c:l=[]
  ·subst c;rw [if_pos (by simp)];simp
  ·have d:0<l.length:=JI.2 c;rw [if_neg (by dsimp only;omega)];have f:=List.getLast?_eq_getElem? (l:=l);rw [Qd (show l.length - 1<l.length by omega)] at f;simp only [f]
   have g:(l.drop (l.length - (1:Int).toNat)).reverse[0]? = some l[l.length - 1]:=by
    have e:l.drop (l.length - (1:Int).toNat)=[l[l.length - 1]]:=by
     rw [show (1:Int).toNat=1 from rfl,JS (by omega),XG (by omega)]
    rw [e];rfl
   refine⟨by first|rfl|trivial,λ_=>⟨g,?_⟩,λh=>absurd rfl h⟩;rw [XO];rfl
 ·rw [if_neg b,if_neg b];simp
theorem zKH{sz:Int}{c:Nat}{l:List Int}{w:World}(h:SlF w (.slice a n c) l)(K:l.length<=100000):
  Sp PP 281 #[plV sz a n c] w λv w'=>(∃r,v=.tuple #[.int .i64 (takeP (sz,l)).1,r,.int .i64 (takeP (sz,l)).2.2]/\PoolO w.heap.size w' r (takeP (sz,l)).2.1)/\Stp w w':=by
 have d:=h.len;obtain rfl:=d;refine eN ?_;refine rbx λb1 w1 n1 B1=>ral λL F n2 G=>?_;have M:=n1.b;have O:=n2.b;have Q:=n1.s;have S:=n2.s;have d:=zMm sz l;obtain⟨T,U,V⟩:=d;refine rldG rfl rfl ?_;refine rcall (zJG (m:=1) (h.up (w':=F)) K (by decide)) ?_;rintro v H ⟨⟨lv,r,rfl,t,⟨a3,c3,rfl,W⟩⟩,e3⟩;have d:=t.shape;obtain⟨ao,co,rfl⟩:=d;refine ral λb4 w4 I B4=>rsto (vs:=[.int .i64 (takesP (sz,l) 1).2.1.1,.slice a3 (takesP (sz,l) 1).2.1.2.length c3]) rfl rfl rfl (pl_one _ _ _ _) λJ X Y _=>?_;have s5:Stp H J:=I.st Y;refine ite (λf=>?_) (λf=>?_)
 ·rw [V f];refine rbuild (cs:=[.int .i64 0,.slice none 0 0]) rfl ?_;have q:=G.mv (w:=J);refine rS q [.int .i64 0,.slice none 0 0] (pl_one _ _ _ _) λy Z o _=>?_;have z:Stp w y:=n2.st o;refine rresG rfl ?_;exact⟨⟨_,rfl,zP_o _ _⟩,z⟩
 ·have f:=Q2.1 f;have d:=U f;obtain⟨A,q2⟩:=d;rw [<-q2];have a0:=I.b;have z3:=lz F H;refine dD (λi=>i=L) (upF 7 0) λC e1=>tix (t.sl.up (w':=C)) (x:=(takeP (sz,l)).1) (i:=0) A λb7 o7 A7 p=>?_;have hlt:=t.lt (λe=>by rw [e] at A;cases A);obtain⟨g,E,a1,_⟩:=hlt;refine tload1 (A7.cell0 rfl) (by rw [E] at p;cases p;omega) (tldG (B:=X) rfl rfl (by omega) ?_);have q:=G.mv (w:=C);refine rS q [.int .i64 (takesP (sz,l) 1).2.1.1,.slice a3 (takesP (sz,l) 1).2.1.2.length c3] (pl_one _ _ _ _) λy Z o _=>?_;have z:Stp w y:=n2.st o;refine⟨o,?_⟩;refine rresG rfl ?_;rw [T,f];exact⟨⟨_,rfl,(PoolO.mk ((W.up (w':=C)).frc o q)).older⟩,z⟩
instance:Enc StD:=⟨4,λx=>[.int .i64 x.key.slot,.int .i64 x.key.dir,.int .i64 x.key.v,.int .i64 x.d],λ_=>rfl,by intro x u hu;simp at hu;rcases hu with rfl|rfl|rfl|rfl <;> rfl,by decide⟩
abbrev tbE:List TypeId:=[259,360]
theorem TabS.wrote{b c most:Nat}{s:TS}{w:World}(T:TabS B w b a c most s)(f:Fr (tabD B b a c most) w w'):FrT B tbE w w':=by
 obtain⟨h0,R,T,_⟩:=T;refine Fr.mono f λi hi hd=>?_;rcases hd with rfl|hd
 ·exact .mk h0 T.cell.h (by decide)
 ·have d:=T.row;rcases d with ⟨_,a,h⟩|d
  ·exact absurd h (hd.2.2 a)
  ·have l:=d.2;rcases l with ⟨h,_⟩|⟨g,cap,o,h,p,q,_⟩
   ·have:=hd.2.1;rw [h] at this;cases this
   ·have e:=hd.2.1;rw [h] at e;simp only [Value.blk] at e;cases e;exact .mk p q (by decide)
theorem TabS.kept{C b c most:Nat}{s:TS}{w:World}{d:List TypeId}(T:TabS B w b a c most s)(f:FrT C d w w')(e:259∉d)(g:360∉d):TabS B w' b a c most s:=by
 obtain⟨h0,R,T,r⟩:=T;exact⟨h0,R,⟨T.cell.kept f e,T.row.kept f g,T.len,T.tab,T.bnd,T.may,T.zero⟩,r⟩
theorem zPP{b c most:Nat}{s:TS}{k:KeyD}{n:Int}{w:World}(T:TabS B w b a c most s):
  Sp PP 282 #[.pointer (some ⟨b,0,none⟩),agg k,.int .i64 n] w λv w'=>v=.int .i64 (putTS most s k n).2/\TabS B w' b a c most (putTS most s k n).1/\FrT B tbE w w':=
 (Put_sp T).mono λ_ _ ⟨d,e,f⟩=>⟨d,e,T.wrote f⟩
theorem zFP{x:StD}{w:World}:Sp PP 280 #[agg x] w λv w'=>v=.int .i64 (if mayX x then 0 else 1)/\Stp w w':=by
 refine eN ?_;refine rbx λb w1 n1 d=>rcall (zFQ (most:=1) (w:=w1)) ?_;rintro v r ⟨⟨h,_⟩|⟨N,t,ta,tc,y,_,_,rfl,T⟩,z⟩
 ·omega
 have f:N=1:=by omega
 obtain rfl:=f;refine iT rfl (rG d x.key (rcall (zPP (k:=x.key) (n:=0) T) ?_));rintro v g ⟨rfl,A,l⟩;have C:Stp w1 g:=⟨FrT.st Le.e l (Qe _)⟩
 have o:(putTS 1 zTS x.key 0).2=if mayK x.key then 0 else 1:=by
  unfold putTS;split
  ·rfl
  ·rfl
 rw [o];refine rX d rfl (ite (λp=>?_) (λp=>?_))
 ·rw [if_neg (λh:mayX x=>by have:=h.2.1;omega)];exact⟨rfl,stp⟩
 refine rX d rfl (ite (λq=>?_) (λq=>?_))
 ·rw [if_neg (λh:mayX x=>by have:=h.2.2;omega)];exact⟨rfl,stp⟩
 ·refine⟨?_,stp⟩;by_cases c:mayK x.key
  ·rw [if_pos c,if_pos ⟨c,by omega,by omega⟩];rfl
  ·rw [if_neg c,if_neg (λh:mayX x=>c h.1)];rfl
theorem zIO{d:Value}{x:StD}{w:World}:Sp PP 279 #[d,agg x] w λv w'=>v=.int .i64 (if mayX x then 150 else 1)/\Stp w w':=by
 refine eN ?_;refine rbx λb w1 n1 e=>rG e x ?_;have M:=zFP (x:=x) (w:=w1);by_cases c:mayX x
 ·rw [if_pos c] at M ⊢;refine rcall M ?_;rintro v f ⟨rfl,g⟩;refine iF (· rfl) ?_;exact⟨rfl,stp⟩
 ·rw [if_neg c] at M ⊢;refine rcall M ?_;rintro v f ⟨rfl,g⟩;refine iT (by first|omega|decide|(dsimp only <;> omega)) ?_;exact⟨rfl,stp⟩
structure StoH (B:Nat) (w:World) (b gs size bt:Nat) (ta:Option Addr) (tc:Nat) (ts:TS) (fa:Option Addr) (fc:Nat) (fr:List Int) (sc:Nat) (st:List StD) (bm:Nat) (m:List (Int×Value)) (ch:Int->List Int):Prop where
 lo:B<=b/\B<=bm/\B<=gs
 cell:Bk w b [.pointer (some ⟨bt,0,none⟩),.int .i64 size,.slice fa fr.length fc,.slice (some ⟨gs,0,none⟩) size sc,.map (some bm)] 180
 tab:TabS B w bt ta tc size ts
 free:SlY 3 w (.slice fa fr.length fc) fr
 sts:Own B 222 w (.slice (some ⟨gs,0,none⟩) size sc) st
 map:MapL PP 3 w bm m
 rows:∀s v,(s,v)∈m->Own B 3 w v (ch s)/\ch s≠[]
 empt:∀s,s∉m.map (·.1)->ch s=[]
 apart:∀s v s' v',(s,v)∈m->(s',v')∈m->s≠s'->∀g,Value.blk v=some g->Value.blk v'≠some g
 apart2:fr≠[]->∀s v,(s,v)∈m->∀g,Value.blk v=some g->Value.blk (.slice fa fr.length fc)≠some g
structure FpS (R:Nat->Prop) (b gs size bt:Nat) (ta:Option Addr) (tc:Nat) (fa:Option Addr) (fc:Nat) (fr:List Int) (bm:Nat) (m:List (Int×Value)):Prop where
 b:R b
 bt:R bt
 ta:∀g,Value.blk (.slice ta (2*size) tc)=some g->R g
 gs:R gs
 bm:R bm
 fr:fr≠[]->∀g,Value.blk (.slice fa fr.length fc)=some g->R g
 rows:∀s v,(s,v)∈m->∀g,Value.blk v=some g->R g
def gR (R:Nat->Prop) (w w':World):Nat->Prop:=λi=>R i\/(w.heap.size<=i/\i<w'.heap.size)
abbrev gP (R:Nat->Prop) (w:World):Nat->Prop:=λi=>R i\/w.heap.size<=i
def StoP (R:Nat->Prop) (B:Nat) (w:World) (b gs size:Nat) (L:List StD):Prop:=
 ∃bt ta tc ts fa fc fr sc st bm m ch,StoH B w b gs size bt ta tc ts fa fc fr sc st bm m ch/\StoT size ts fr st/\StoM fr st L/\ChI fr st ch/\FpS R b gs size bt ta tc fa fc fr bm m
abbrev psE:List TypeId:=[180,259,360,3,mapK]
abbrev FrS (gs B:Nat) (w w':World):Prop:=FrX (λi=>i=gs) B psE w w'
section
variable {B C:Nat} {w w':World} {b gs size bt:Nat} {ta:Option Addr} {tc:Nat} {ts:TS} {fa:Option Addr} {fc:Nat} {fr:List Int} {sc:Nat} {st:List StD} {bm:Nat} {m:List (Int×Value)} {ch:Int->List Int} {es:List TypeId} {L:List StD}
theorem StoH.up[Le w w'](h:StoH B w b gs size bt ta tc ts fa fc fr sc st bm m ch):StoH B w' b gs size bt ta tc ts fa fc fr sc st bm m ch:=
 ⟨h.lo,h.cell.mv,h.tab.up,h.free.up,h.sts.up,h.map.up,λs v c=>⟨(h.rows s v c).1.up,(h.rows s v c).2⟩,h.empt,h.apart,h.apart2⟩
theorem StoP.up[Le w w'](h:StoP R B w b gs size L):StoP R B w' b gs size L:=by
 obtain⟨bt,ta,tc,ts,fa,fc,fr,sc,st,bm,m,ch,h,r⟩:=h;exact⟨bt,ta,tc,ts,fa,fc,fr,sc,st,bm,m,ch,h.up,r⟩
theorem StoH.look(h:StoH B w b gs size bt ta tc ts fa fc fr sc st bm m ch)(s:Int):Own B 3 w ((getM m s).getD (.slice none 0 0)) (ch s) /\
  (∀g,Value.blk ((getM m s).getD (.slice none 0 0))=some g->∃v,(s,v)∈m/\Value.blk v=some g):=by
 cases c:getM m s with
 |none =>
  have e:=h.empt s (zDq.1 c);rw [e];exact⟨Own.nil _ _ _,λg c=>by cases c⟩
 |some v=>exact⟨(h.rows s v (zA1 c)).1,λg d=>⟨v,zA1 c,d⟩⟩
end
theorem StoP.lt{w:World}{b c size:Nat}{L:List StD}(h:StoP R B w b c size L):B<=b/\b<w.heap.size/\B<=c/\L.length<=size/\SRis L/\1<=size/\size<=400/\R b:=by
 obtain⟨e,ta,tc,ts,f,g,fr,l,st,o,m,p,h,T,M,C,Z⟩:=h;have q:=T.len M;have r:=T.cnt;have d:=T.ok;exact⟨h.lo.1,h.cell.lt,h.lo.2.2,by omega,M.ris,by have:=d.1;omega,by have:=d.2.1;omega,Z.b⟩
theorem zIF{α:Type}[Enc α]{e:TypeId}{w:World}{v:Value}{l:List α}(h:Own B e w v l)(c:l≠[]){g:Nat}(b:Value.blk v=some g):g<w.heap.size:=by
 have d:=h.lt c;obtain⟨p,f,_,o⟩:=d;rw [f] at b;cases b;exact o
theorem StoP.mono{R':Nat->Prop}{w:World}{b p size:Nat}{L:List StD}(h:StoP R B w b p size L)(d:∀i,i<w.heap.size->R i->R' i):StoP R' B w b p size L:=by
 obtain⟨t,ta,tc,ts,x,y,fr,z,st,A,m,E,h,T,M,C,Z⟩:=h;have F:st≠[]:=by intro e;have:=T.stl;rw [e] at this;have:=T.ok.1;simp at *;omega
 have G:=h.tab;obtain⟨_,I,f,_⟩:=G;refine⟨t,ta,tc,ts,x,y,fr,z,st,A,m,E,h,T,M,C,d _ h.cell.lt Z.b,d _ f.cell.lt Z.bt,λg c=>d _ ?_ (Z.ta g c),d _ (zIF h.sts F rfl) Z.gs,d _ h.map.lt Z.bm,λq g c=>d _ ?_ (Z.fr q g c),λs v o g c=>d _ (zIF (h.rows s v o).1 (h.rows s v o).2 c) (Z.rows s v o g c)⟩
 ·refine zIF f.row (λe=>?_) c;have l:=f.len;have r:=f.bnd;rw [e] at l;simp at l;omega
 ·have H:=h.free.blkN q;obtain⟨J,l,r⟩:=H;rw [l] at c;cases c;exact r
theorem StoP.end{w:World}{b c size:Nat}{L:List StD}(h:StoP (gP R w) B w' b c size L):StoP (gR R w w') B w' b c size L:=
 h.mono λi hi d=>d.imp id λh=>⟨h,hi⟩
theorem StoP.gr{w:World}{b c size:Nat}{L:List StD}(h:StoP R B w' b c size L):StoP (gR R w w') B w' b c size L:=h.mono λ_ _ d=>.inl d
theorem StoP.fr{w:World}{b l size:Nat}{L:List StD}(h:StoP R B w b l size L)(f:Fr D w w')(hd:∀i,R i->¬D i):StoP R B w' b l size L:=by
 obtain⟨o,ta,tc,ts,p,q,fr,r,st,t,m,x,h,T,M,C,Z⟩:=h;have y:=h.tab;obtain⟨h0,z,c,A⟩:=y
 exact⟨o,ta,tc,ts,p,q,fr,r,st,t,m,x,⟨h.lo,h.cell.fr f (hd _ Z.b),⟨h0,z,⟨c.cell.fr f (hd _ Z.bt),c.row.fr f λg _ d=>hd _ (Z.ta g d),c.len,c.tab,c.bnd,c.may,c.zero⟩,A⟩,
  h.free.frN f λg E d=>hd _ (Z.fr E g d),h.sts.fr f λg _ d=>by cases d;exact hd _ Z.gs,h.map.fr f (hd _ Z.bm),λs v e=>⟨(h.rows s v e).1.fr f λg _ d=>hd _ (Z.rows s v e g d),(h.rows s v e).2⟩,h.empt,h.apart,h.apart2⟩,T,M,C,Z⟩
theorem FpS.tab{b d size c:Nat}{ta:Option Addr}{tc:Nat}{e:Option Addr}{g:Nat}{fr:List Int}{l:Nat}{m:List (Int×Value)}(Z:FpS R b d size c ta tc e g fr l m){w:World}(f:Fr (tabD B c ta tc size) w w'):Fr R w w':=
 f.mono λi _ hi=>hi.elim (λh=>h ▸ Z.bt) λh=>Z.ta i h.2.1
theorem FpS.look{b d size e:Nat}{ta:Option Addr}{tc:Nat}{f:Option Addr}{l:Nat}{fr:List Int}{o:Nat}{m:List (Int×Value)}(Z:FpS R b d size e ta tc f l fr o m){s:Int}{g:Nat}(h:Value.blk ((getM m s).getD (.slice none 0 0))=some g):R g:=by
 cases c:getM m s with
 |none=>rw [c] at h;cases h
 |some v=>rw [c] at h;exact Z.rows s v (zA1 c) g h
theorem FpS.up{R':Nat->Prop}{b d size e:Nat}{ta:Option Addr}{tc:Nat}{f:Option Addr}{l:Nat}{fr:List Int}{o:Nat}{m:List (Int×Value)}(Z:FpS R b d size e ta tc f l fr o m)(h:∀i,R i->R' i):FpS R' b d size e ta tc f l fr o m:=
 ⟨h _ Z.b,h _ Z.bt,λg c=>h _ (Z.ta g c),h _ Z.gs,h _ Z.bm,λp g c=>h _ (Z.fr p g c),λs v q g c=>h _ (Z.rows s v q g c)⟩
theorem Fr.gP{w:World}(f:Fr (gP R w) w w'):Fr R w w':=Fr.mono f λi hi h=>h.elim id λh=>by omega
theorem zQd{n:Int}(h:¬(n<1\/400<n)):newP n=((n,downTo n.toNat),0)/\okP n (downTo n.toNat)/\(downTo n.toNat).length=n.toNat/\∀p:Nat,(p:Int)<n->(p:Int)∈downTo n.toNat:=by
 refine⟨by unfold newP;rw [if_neg h],⟨by omega,by omega,λx c=>?_,?_⟩,zCO _,λp d=>?_⟩
 ·unfold downTo at c;simp only [Qq,List.mem_reverse,Q0] at c;obtain⟨k,f,rfl⟩:=c;omega
 ·unfold downTo;rw [Qx,QY];rw [List.pairwise_reverse];have:=Xj (n:=n.toNat);rw [Qx] at this;exact this.imp λ{a b} h e=>h (by omega)
 ·unfold downTo;simp only [Qq,List.mem_reverse,Q0];exact⟨p,by omega,rfl⟩
theorem zLn{size:Int}{w:World}:Sp PP 45 #[.int .i64 size] w λv w' =>
  ((size<1\/400<size)/\v=.tuple #[.pointer none,.int .i64 1]\/∃(N b c:Nat),size=(N:Int)/\1<=N/\N<=400/\v=.tuple #[.pointer (some ⟨b,0,none⟩),.int .i64 0]/\StoP (λi=>w.heap.size<=i/\i<w'.heap.size) w.heap.size w' b c N [])/\Stp w w':=by
 refine eN ?_;refine rcall (zLP (size:=size) (w:=w)) ?_;rintro v w1 ⟨⟨pv,rfl,q,t,rfl,O1⟩,e1⟩;refine ral λb2 w2 n2 z2=>rS z2 [.int .i64 (newP size).1.1,.slice q (newP size).1.2.length t] (pl_one _ _ _ _) λC B3 f3 _=>?_;have s3:Stp w1 C:=n2.st f3;clear z2 f3;by_cases J:size<1\/400<size
 ·have O:(newP size).2=1:=by unfold newP;rw [if_pos J]
  rw [O];refine iT (by first|omega|decide|(dsimp only <;> omega)) ?_;exact⟨.inl ⟨J,rfl⟩,stp⟩
 have Q:=zQd J;obtain⟨O,S,a0,l⟩:=Q;rw [O] at O1 B3 ⊢;refine iF (· rfl) (rcall (zFQ (most:=size) (w:=C)) ?_);rintro v w4 ⟨⟨h,_⟩|⟨N,K,ta,tc,rfl,U,V,rfl,T⟩,e4⟩
 ·exact absurd h J
 refine iF (· rfl) ?_
 have fin:∀(u:World) (c E b d:Nat),Stp w u->StoP (λi=>w.heap.size<=i) w.heap.size u b c N []->((((N:Int)<1\/400<(N:Int))/\Value.tuple #[.pointer (some ⟨b,0,none⟩),.int .i64 0]=.tuple #[.pointer none,.int .i64 1]\/∃(M b' W:Nat),(N:Int)=(M:Int)/\1<=M/\M<=400/\Value.tuple #[.pointer (some ⟨b,0,none⟩),.int .i64 0]=.tuple #[.pointer (some ⟨b',0,none⟩),.int .i64 0]/\StoP (λi=>w.heap.size<=i/\i<u.heap.size) w.heap.size u b' W M [])/\Stp w u):=
  λu c E b d s P=>⟨.inr ⟨N,b,c,rfl,U,V,rfl,P.mono λi f o=>⟨o,f⟩⟩,s⟩
 have O4:=O1.up (w':=w4)
 have T0:StoT N zTS (downTo N) (List.replicate N zSt):=by
  refine⟨S,by simp,λk n=>Iff.intro (λh=>nomatch h) (λ⟨p,_,f,x,o,_⟩=>absurd (l p ?_) f),?_⟩
  ·have:=(Qy.1 o).1;simp at this;omega
  ·show 0+(downTo N).length=N;rw [zCO];omega
 have M0:StoM (downTo N) (List.replicate N zSt) []:=⟨.nil,λx=>Iff.intro (λh=>nomatch h) (λ⟨p,f,o⟩=>absurd (l p (by have:=(Qy.1 o).1;simp at this;omega)) f)⟩;have C0:ChI (downTo N) (List.replicate N zSt) (λ_=>[]):=λs=>⟨by simp,λn=>Iff.intro (λh=>nomatch h) (λ⟨p,_,f,x,o,_⟩=>absurd (l p (by have:=(Qy.1 o).1;simp at this;omega)) f)⟩
 have mk:∀(u:World) (c E b d:Nat),w.heap.size<=b->w.heap.size<=d->w.heap.size<=c->Le w4 u->Bk u b [.pointer (some ⟨K,0,none⟩),.int .i64 N,.slice q (downTo N).length t,.slice (some ⟨c,0,none⟩) N E,.map (some d)] 180->Own w.heap.size 222 u (.slice (some ⟨c,0,none⟩) N E) (List.replicate N zSt)->MapL PP 3 u d ([]:List (Int×Value))->StoP (λi=>w.heap.size<=i) w.heap.size u b c N []:=by
  intro u c E b d f o h3 L CB OS MB;refine⟨K,ta,tc,zTS,q,t,downTo N,E,List.replicate N zSt,d,[],λ_=>[],⟨⟨f,o,h3⟩,CB,?_,(O4.up (w':=u)).y,OS,MB,(λs v h=>nomatch h),λ_ _=>rfl,(λs v s' v' h=>nomatch h),(λ_ s v h=>nomatch h)⟩,T0,M0,C0,f,Qw (lz w C) T.1,λg z=>?_,h3,o,λhn g z=>?_,(λs v h=>nomatch h)⟩
  rotate_left
  ·obtain⟨_,Rw,X,_⟩:=T;obtain⟨g',Y,q2,_⟩:=X.row.lt (λe=>by have f:=X.len;have o:=X.bnd;rw [e] at f;simp at f;omega);rw [Y] at z;cases z;exact Qw (lz w C) q2
  ·have Q:=O4.lt hn;obtain⟨g',Y,q2,_⟩:=Q;have q3:Value.blk (.slice q (downTo N).length t)=some g':=Y;rw [q3] at z;cases z;exact q2
  have:=T.up (w':=u);obtain⟨g0,R,H,r⟩:=this;exact⟨Qw (lz w C) g0,R,⟨H.cell,H.row.mono (lz w C),H.len,H.tab,H.bnd,H.may,H.zero⟩,r⟩
 have Z:(Value.agg #[Value.int IntKind.i64 0,Value.int IntKind.i64 0,Value.int IntKind.i64 0,Value.int IntKind.i64 0]).cells.toList=enc zSt:=rfl;refine dT (λ_=>False) (oL [0,1,2] (.two 3 (oL [4,5,6,7,8] .nil) 4 (oL [3,5,6,7,8] .nil))) λu5 e5=>tldG (ds:=[.int .i64 (N:Nat),.slice q (downTo N).length t]) (B:=B3) rfl rfl nf ?_;refine⟨?_,?_⟩
 ·refine rmk zSt rfl rfl (by omega) λc u6 O6 s6 z=>⟨s6.e,?_⟩;refine rmkN (kt:=3) (κ:=Int) rfl λd u7 F M7=>⟨F.e,?_⟩;refine tbuild (cs:=[.pointer (some ⟨K,0,none⟩),.int .i64 (N:Nat),.slice q (downTo N).length t,.slice (some ⟨c,0,none⟩) N N,.map (some d)]) rfl (rbx λb G I B8=>⟨I.e,?_⟩);have A:w.heap.size<=u5.heap.size:=Le.size;refine fin G c N b d stp (mk G c N b d I.lo F.lo (by omega) inferInstance B8 (O6.up.mono A) M7.up)
 ·refine rmkN (kt:=3) (κ:=Int) rfl λd u7 F M7=>⟨F.e,?_⟩;refine rmk zSt rfl rfl (by omega) λc u6 O6 s6 z=>⟨s6.e,?_⟩;refine tbuild (cs:=[.pointer (some ⟨K,0,none⟩),.int .i64 (N:Nat),.slice q (downTo N).length t,.slice (some ⟨c,0,none⟩) N N,.map (some d)]) rfl (rbx λb G I B8=>⟨I.e,?_⟩);have A:w.heap.size<=u7.heap.size:=Le.size;refine fin G c N b d stp (mk G c N b d I.lo F.lo (by omega) inferInstance B8 (O6.up.mono A) M7.up)
theorem zEw{κ:Type}[DecidableEq κ]{m:List (κ×Value)}(b:(m.map (·.1)).Nodup){k:κ}{v:Value}:(k,v)∈m↔getM m k=some v:=⟨zAK b,zA1⟩
theorem zAg{κ:Type}[DecidableEq κ]{m:List (κ×Value)}(c:(m.map (·.1)).Nodup){k s:κ}{v b:Value}:(s,v)∈setM k b m↔(s=k/\v=b)\/(s≠k/\(s,v)∈m):=by
 rw [zEw (zBA k b m c),zGY,zEw c];by_cases e:s=k
 ·rw [if_pos e];simp [e];exact eq_comm
 ·rw [if_neg e];simp [e]
theorem zCb{κ:Type}[DecidableEq κ]{m:List (κ×Value)}(b:(m.map (·.1)).Nodup){k s:κ}{v:Value}:(s,v)∈delM k m↔s≠k/\(s,v)∈m:=by
 rw [zEw (zEk k b),zKk k s m b,zEw b];by_cases e:s=k
 ·rw [if_pos e];simp [e]
 ·rw [if_neg e];simp [e]
theorem MapL.frO{α:Type}[Enc α]{kt:TypeId}{κ:Type}[DecidableEq κ][MKey PP kt κ]{C:Nat}{e:TypeId}{w:World}{v:Value}{l:List α}{d:Nat}{m:List (κ×Value)}(h:MapL PP kt w d m)(O:Own C e w v l)(f:Fr (ownD B v) w w'):MapL PP kt w' d m:=by
 refine h.fr f λhd=>?_;rcases O with ⟨_,a,e⟩|p
 ·exact hd.2.2 a e
 ·have q:=p.2;rcases q with ⟨e,_⟩|⟨g,cap,r,e,_,t,_⟩
  ·rw [e] at hd;cases hd.2.1
  ·have b:=hd.2.1;rw [e] at b;simp only [Value.blk] at b;cases b;obtain⟨⟨x,c,o,_⟩,_⟩:=h;rw [t] at o;cases o
theorem StoH.chain{w:World}{b Y size bt:Nat}{ta:Option Addr}{tc:Nat}{ts:TS}{S:Option Addr}{T:Nat}{fr:List Int}{sc:Nat}{st:List StD}{H:Nat}{m:List (Int×Value)}{ch:Int->List Int}{s n:Int}{F:Value}
  (h:StoH B w b Y size bt ta tc ts S T fr sc st H m ch){I:World}(O:Own B 3 I F (ch s++[n]))(U:Fr (ownD B ((getM m s).getD (.slice none 0 0))) w I)
  (p:Value.blk F=Value.blk ((getM m s).getD (.slice none 0 0))\/Value.blk F=some w.heap.size)(M:MapL PP 3 u H (setM s F m))(f2:Fr (λi=>i=H) I u):
  StoH B u b Y size bt ta tc ts S T fr sc st H (setM s F m) (λs'=>if s'=s then ch s'++[n] else ch s')/\FrT B [3,mapK] w u/\∀R,FpS R b Y size bt ta tc S T fr H m->Fr R w u/\∀R',(∀i,R i->R' i)->R' w.heap.size->FpS R' b Y size bt ta tc S T fr H (setM s F m):=by
 have d:=h.look s;obtain⟨V,y⟩:=d;have x:=h.map.2;have F1:FrT B [3,mapK] w I:=V.wrote U (Qe _) (by decide);have M1:MapL PP 3 I H m:=h.map.frO V U;have F2:FrT B [3,mapK] I u:=M1.wrote f2 h.lo.2.1 (by decide);have J:FrT B [mapK] I u:=M1.wrote f2 h.lo.2.1 (by decide);have FF:=F1.trans F2
 have lt:∀l q,(l,q)∈m->∃g,Value.blk q=some g/\g<w.heap.size:=λl q z=>by
  have d:=h.rows l q z;obtain⟨K,c⟩:=d;have d:=K.lt c;obtain⟨g,L,_,Q⟩:=d;exact⟨g,L,Q⟩
 have nd:∀l q,(l,q)∈m->l≠s->∀g,Value.blk q=some g->¬ownD B ((getM m s).getD (.slice none 0 0)) g:=λl q z c g f hd=>by
  have d:=y g hd.2.1;obtain⟨C,r,t⟩:=d;exact h.apart l q s C z r c g f t
 have free:SlY 3 u (.slice S fr.length T) fr:=by
  refine(h.free.frN U λg c f hd=>?_).kept J (by decide);have d:=y g hd.2.1;obtain⟨C,r,t⟩:=d;exact h.apart2 c s C r g t f
 refine⟨⟨h.lo,h.cell.kept FF (by decide),h.tab.kept FF (by decide) (by decide),free,h.sts.kept FF (by decide),M,λl q z=>?_,λl W=>?_,λl q s3 v3 Q h3 c g f v=>?_,λc l q Q g f=>?_⟩,FF,λR Z=>⟨(U.mono λi _ hi=>Z.look hi.2.1).trans (f2.mono λi _ hi=>hi ▸ Z.bm),λR' G hn=>⟨G _ Z.b,G _ Z.bt,λg f=>G _ (Z.ta g f),G _ Z.gs,G _ Z.bm,λc g f=>G _ (Z.fr c g f),λl q Q g f=>?_⟩⟩⟩
 rotate_left 4
 ·have d:=(zAg x).1 Q;rcases d with ⟨rfl,rfl⟩|⟨_,o⟩
  ·rcases p with p|p
   ·rw [p] at f;exact G _ (Z.look f)
   ·rw [p] at f;cases f;exact hn
  ·exact G _ (Z.rows l q o g f)
 ·have d:=(zAg x).1 z;rcases d with ⟨rfl,rfl⟩|⟨c,o⟩
  ·rw [if_pos rfl];exact⟨O.kept J (by decide),by simp⟩
  ·rw [if_neg c];have d:=h.rows l q o;obtain⟨K,A⟩:=d;exact⟨(K.fr U λg _ f=>nd l q o c g f).kept J (by decide),A⟩
 ·have a0:l≠s:=by rintro rfl;exact W ((setM_keys l F m l).2 (.inl rfl))
  rw [if_neg a0];exact h.empt l λhm=>W ((setM_keys s F m l).2 (.inr hm))
 ·have d:=(zAg x).1 Q;rcases d with ⟨rfl,rfl⟩|⟨A,o⟩
  ·have d:=(zAg x).1 h3;rcases d with ⟨e,_⟩|⟨X,E⟩
   ·exact c e.symm
   ·rcases p with p|p
    ·rw [p] at f;have d:=y g f;obtain⟨C,r,t⟩:=d;exact h.apart _ C s3 v3 r E c g t v
    ·rw [p] at f;cases f;have d:=lt s3 v3 E;obtain⟨g',L,h4⟩:=d;rw [L] at v;cases v;omega
  ·have d:=(zAg x).1 h3;rcases d with ⟨rfl,rfl⟩|⟨X,E⟩
   ·rcases p with p|p
    ·rw [p] at v;have d:=y g v;obtain⟨C,r,t⟩:=d;exact h.apart l q _ C o r c g f t
    ·rw [p] at v;cases v;have d:=lt l q o;obtain⟨g',L,h4⟩:=d;rw [L] at f;cases f;omega
   ·exact h.apart l q s3 v3 o E c g f v
 ·have d:=(zAg x).1 Q;rcases d with ⟨rfl,rfl⟩|⟨A,o⟩
  ·rcases p with p|p
   ·rw [p] at f;have d:=y g f;obtain⟨C,r,t⟩:=d;exact h.apart2 c _ C r g t
   ·rw [p] at f;cases f;intro hf;have d:=h.free.blkN c;obtain⟨g',L,h4⟩:=d;rw [L] at hf;cases hf;omega
  ·exact h.apart2 c l q o g f
theorem zLo{b o size:Nat}{L:List StD}{x:StD}{w:World}(S:StoP R B w b o size L):
  Sp PP 199 #[.pointer (some ⟨b,0,none⟩),agg x] w λv w'=>v=.int .i64 (putS' size L x).2/\StoP (gR R w w') B w' b o size (putS' size L x).1/\FrS o B w w'/\Fr R w w':=by
 have SS:=S;have hlt:=S.lt;obtain⟨d2,g1,g3,g4,f6,g6,g7,_⟩:=hlt;obtain⟨bt,ta,tc,ts,fa,fc,fr,sc,st,Q,m,ch,H,T,M,C,Z⟩:=S;have g8:=T.len M;have a2:=T.cnt;refine eN ?_;refine rbx λbx w1 n1 B1=>?_;have d3:=n1.lo (u:=w);refine rpnil ?_;have H1:=H.up (w':=w1);refine dQ 12 λw2 e2=>tX H1.cell rfl nf (tG B1 x.key nf ?_);have H2:=H1.up (w':=w2);refine rcall (Get_sp (k:=x.key) H2.tab) ?_;rintro v w3 ⟨rfl,e3⟩;refine⟨e3.e,?_⟩;have f:=T.get M x.key;rcases f with ⟨p,y,hm,hp,hy,g9,K⟩|⟨hm,K⟩
 ·-- it is there
  have q:getTS ts x.key=((p:Int),true):=by unfold getTS;rw [hm]
  rw [q];refine rG B1 x (rcall (zIO (x:=x)) ?_);rintro v w4 ⟨rfl,e4⟩
  have z:putS' size L x=(L,if mayX x then 150 else 1):=by
   unfold putS';split
   ·rw [K]
   ·rfl
  rw [z];exact⟨rfl,SS.up.gr,FrX.ext Le.e,Fr.fr Le.e⟩
 have q:getTS ts x.key=(0,false):=by unfold getTS;rw [hm]
 rw [q];refine rG B1 x ?_;have MY:=zFP (x:=x) (w:=w3);by_cases l:mayX x
 case neg =>
  rw [if_neg l] at MY;refine rcall MY ?_;rintro v w4 ⟨rfl,e4⟩;have z:putS' size L x=(L,1):=by unfold putS';rw [if_neg l]
  rw [z];refine iT (by first|omega|decide|(dsimp only <;> omega)) ?_;exact⟨rfl,SS.up.gr,FrX.ext Le.e,Fr.fr Le.e⟩
 rw [if_pos l] at MY;refine rcall MY ?_;rintro v w4 ⟨rfl,e4⟩;refine iF (· rfl) ?_;have H4:=H.up (w':=w4);refine rldG (ds:=[.int .i64 (size:Nat),.slice fa fr.length fc]) (B:=H4.cell) rfl rfl ?_;have f8:fr.length<=size:=by omega
 refine rcall (zKH (sz:=(size:Int)) H4.free.sl (by omega)) ?_;rintro v w5 ⟨⟨pv,rfl,a5,c5,rfl,O5⟩,e5⟩;refine ral λb6 w6 n6 z6=>rS z6 [.int .i64 (takeP ((size:Int),fr)).2.1.1,.slice a5 (takeP ((size:Int),fr)).2.1.2.length c5] (pl_one _ _ _ _) λw7 B7 f7 _=>?_;have s7:Stp w5 w7:=n6.st f7;clear z6 f7;by_cases a0:fr=[]
 ·-- it is full
  have ht:takeP ((size:Int),fr)=(0,zP,140):=by unfold takeP;rw [if_pos T.ok,a0];rfl
  rw [ht]
  have z:putS' size L x=(L,140):=by
   unfold putS';rw [if_pos l,K];simp only;rw [if_pos (by rw [a0] at a2;simp at a2;omega)]
  rw [z];refine iT (by first|omega|decide|(dsimp only <;> omega)) ?_;exact⟨rfl,SS.up.gr,FrX.ext Le.e,Fr.fr Le.e⟩
 have f:∃c n,fr=c++[n]:=⟨fr.dropLast,fr.getLast a0,(Xc a0).symm⟩;obtain⟨c,n,c0⟩:=f;subst c0;have hn:=T.ok.2.2.1 n (by simp);have f:=QU hn.1;obtain⟨p,rfl⟩:=f
 have ht:takeP ((size:Int),c++[(p:Int)])=((p:Int),((size:Int),c),0):=by
  unfold takeP;rw [if_pos T.ok];rw [List.getLast?_concat];show ((p:Int),((size:Int),(c++[(p:Int)]).dropLast),(0:Int))=_;rw [List.dropLast_concat]
 rw [ht] at O5 B7 ⊢;refine iF (· rfl) ?_;have c1:=T.put M C l.1 hm;obtain⟨d4,T',M',C'⟩:=c1;have h0:(c++[(p:Int)]).length=c.length+1:=by simp
 have z:putS' size L x=(insS x L,0):=by
  unfold putS';rw [if_pos l,K];simp only;rw [if_neg (by omega)]
 rw [z];have H7:=H.up (w':=w7)
 have h6:o<w.heap.size:=by
  have:=H.sts.lt (by intro h;have:=T.stl;rw [h] at this;simp at this;omega);obtain⟨g,h1,_,h2⟩:=this;have h7:o=g:=QL h1;omega
 have h8:=n6.lo (u:=w);refine dD (λi=>i≠b/\i≠bx) (upF 9 0) λw8 e8=>tX H7.cell rfl (λh=>h.1 rfl) (tG B1 x.key (λh=>h.2 rfl) ?_);have H8:=H7.up (w':=w8);have PT:=Put_sp (k:=x.key) (n:=(p:Int)) H8.tab;rw [d4] at PT;refine rcall PT ?_;rintro v w9 ⟨rfl,T9,c2⟩;have f9:=H8.tab.wrote c2;have G9:Fr R w w9:=(Fr.fr Le.e:Fr R w w8).trans (Z.tab c2);have B8:=B1.mv (w:=w8);refine⟨Fr.mono f9 λi _ hi=>⟨by rintro rfl;exact absurd (hi.cells H8.cell.h) (by decide),by rintro rfl;exact absurd (hi.cells B8.h) (by decide)⟩,?_⟩;refine iF (· rfl) ?_;have F9:FrS o B w w9:=(FrX.ext Le.e).trans (f9.x (Qe _) (by decide));have B9:=B8.kept f9 (by decide);have P9:=(B7.mv (w:=w8)).kept f9 (by decide);have C9:=H8.cell.kept f9 (by decide);have S9:=H8.sts.kept f9 (by decide);have R9:SlY 3 w9 (.slice a5 c.length c5) c:=(O5.y.up (w':=w8)).kept f9 (by decide);refine dT (λi=>i=b\/ownD B (.slice (some ⟨o,0,none⟩) size sc) i) (oL [0,1,2,3,5,6,7] (.lone 4 (oL [8,9,10,11,12] .nil))) λr c3=>?_;have d5:¬(b6=b\/ownD B (.slice (some ⟨o,0,none⟩) size sc) b6):=λh=>h.elim (λh=>by omega) (λh=>by have:=QL h.2.1;simp only at this;omega);have c4:¬(bx=b\/ownD B (.slice (some ⟨o,0,none⟩) size sc) bx):=λh=>h.elim (λh=>by omega) (λh=>by have:=QL h.2.1;simp only at this;omega);refine tldG (ds:=[.int .i64 (size:Nat),.slice a5 c.length c5]) (B:=P9) rfl rfl d5 (tG B9 x c4 (rX C9 rfl ⟨Fr.refl _ _,?_⟩));have c6:=C9.mv (w:=r);refine rS c6 [.int .i64 (size:Nat),.slice a5 c.length c5] (pl_one _ _ _ _) λa6 c7 a7 _=>⟨a7.mono λi _ hi=>.inl hi,?_⟩;have E:FrT B [180] r a6:=c6.wrote a7 d2 (by decide);have O:=(S9.up (w':=r)).kept E (by decide);have c8:p<st.length:=by rw [T.stl];omega
 refine tixO rfl O (x:=st[p]) (by simp [c8]) λg q _ A=>rstO' rfl x O q c8 rfl λF d6 G _=>⟨G.mono λi _ hi=>.inr hi,?_⟩;have h9:g=o:=(QL q).symm;have d7:Fr (λi=>i=o) a6 F:=Fr.mono G λi _ hi=>(QL hi.2.1).symm;have d8:FrS o B w F:=(((F9.trans (FrX.ext c3.e)).trans (E.x (Qe _) (by decide))).trans (O.wroteX G λg q=>(QL q).symm));have a3:Fr R w F:=((G9.trans (Fr.fr c3.e)).trans (a7.mono λi _ hi=>hi ▸ Z.b)).trans (d7.mono λi _ hi=>hi ▸ Z.gs);have d9:¬ownD B (.slice (some ⟨o,0,none⟩) size sc) b:=c7.notOwn O
 have t:StoH B F b o size bt ta tc (putTS size ts x.key p).1 a5 c5 c sc (st.set p x) Q m ch:=by
  have e0:=(T9.up (w':=r)).kept E (by decide) (by decide);have e1:TabS B F bt ta tc size (putTS size ts x.key p).1:=e0.kept (O.wrote G (Qe _) (show 222∈[222] by decide)) (by decide) (by decide);have a8:FrT B [222] a6 F:=O.wrote G (Qe _) (by decide);refine⟨H.lo,c7.fr G d9,e1,((R9.up (w':=r)).kept E (by decide)).kept a8 (by decide),d6,(((H8.map.kept f9 (by decide)).up (w':=r)).kept E (by decide)).kept a8 (by decide),λs v U=>?_,H.empt,H.apart,λa9 s v U g q hf=>?_⟩
  ·have:=H8.rows s v U;exact⟨(((this.1.kept f9 (by decide)).up (w':=r)).kept E (by decide)).kept a8 (by decide),this.2⟩
  ·have f:=O5.lt a9;obtain⟨g5,h1,h2,_⟩:=f;rw [h1] at hf;cases hf;have f:=H.rows s v U;obtain⟨b0,V⟩:=f;have f:=b0.lt V;obtain⟨g',h3,_,h4⟩:=f;rw [h3] at q;cases q;have:=lz w w4;omega
 have b1:Bk F bx (enc x) 222:=((B9.mv (w:=r)).kept E (by decide)).fr G (λh=>c4 (.inr h));have e6:Q≠b:=by intro e;exact t.map.ne t.cell e.symm
 have c9:Q≠bx:=by intro e;exact t.map.ne b1 e.symm
 have e7:=t.look x.key.slot;obtain⟨W,e9⟩:=e7
 have a4:∀i,w.heap.size<=i\/i=b->¬ownD B ((getM m x.key.slot).getD (.slice none 0 0)) i:=λi hi hd=>by
  have f:=e9 i hd.2.1;obtain⟨v0,f0,d0⟩:=f;have f:=H.rows _ v0 f0;obtain⟨b0,V⟩:=f;have f:=b0.lt V;obtain⟨g',h3,_,h4⟩:=f;rw [h3] at d0;cases d0;rcases hi with h|rfl
  ·omega
  ·rcases W with ⟨_,a,e⟩|hO
   ·exact hd.2.2 a e
   ·have f:=hO.2;rcases f with ⟨e,_⟩|⟨g2,cap,i0,e,_,f3,_⟩
    ·rw [e] at hd;cases hd.2.1
    ·have h5:=hd.2.1;rw [e] at h5;simp only [Value.blk] at h5;cases h5;have:=t.cell.h;rw [f3] at this;cases this
 have g0:(ch x.key.slot).length<=1000:=by
  have h1:=(T.of M C x.key.slot).length_eq;have h2:(ofS L x.key.slot).length<=L.length:=Qv _ _;rw [Qr] at h1;omega
 refine dT (λi=>i=Q\/ownD B ((getM m x.key.slot).getD (.slice none 0 0)) i) (oL [0,1,2,3,4,5,6,7,8,9,10,11,12,13,15] (.duo 14 (oL [16,17,18] .nil) 16 (.lone 14 (.one 17 (.one 18 .nil))))) λa1 d1=>?_;have nb:¬(b=Q\/ownD B ((getM m x.key.slot).getD (.slice none 0 0)) b):=λh=>h.elim (λh=>e6 h.symm) (a4 b (.inr rfl));have nx:¬(bx=Q\/ownD B ((getM m x.key.slot).getD (.slice none 0 0)) bx):=λh=>h.elim (λh=>c9 h.symm) (a4 bx (.inl d3));refine tX t.cell rfl nb (tX b1 rfl nx (tX t.cell rfl nb (tX b1 rfl nx ?_)));have I:=t.up (w':=a1)
 have fin:∀(u0 u1 u2:World) (v':Value),Le a1 u0->Own B 3 u1 v' (ch x.key.slot++[(p:Int)])->Fr (ownD B ((getM m x.key.slot).getD (.slice none 0 0))) u0 u1->(Value.blk v'=Value.blk ((getM m x.key.slot).getD (.slice none 0 0))\/Value.blk v'=some u0.heap.size) ->
   MapL PP 3 u2 Q (setM x.key.slot v' m)->Fr (λi=>i=Q) u1 u2->StoP (gR R w u2) B u2 b o size (insS x L)/\FrS o B w u2/\Fr R w u2:=λu0 u1 u2 v' L0 O1 f1 U M2 f2=>by
  have hc:=(I.up (w':=u0)).chain O1 f1 U M2 f2
  have Z5:FpS (gP R w) b o size bt ta tc a5 c5 c Q m:=⟨.inl Z.b,.inl Z.bt,λg q=>.inl (Z.ta g q),.inl Z.gs,.inl Z.bm,λa9 g q=>.inr (by
   have f:=O5.lt a9;obtain⟨g5,h1,h2,_⟩:=f;rw [h1] at q;cases q;have:=lz w w4;omega),λs v U g q=>.inl (Z.rows s v U g q)⟩
  have hz:=hc.2.2 _ Z5;have f4:w.heap.size<=u0.heap.size:=by have h1:=a3.size;have h2:=d1.e.size;have h3:=L0.e.size;omega
  exact⟨(show StoP (gP R w) B u2 b o size (insS x L) from ⟨bt,ta,tc,_,a5,c5,c,sc,_,Q,_,_,hc.1,T',M',C',hz.2 _ (λ_ h=>h) (.inr f4)⟩).end,(d8.trans (FrX.ext Le.e)).trans ((FrX.ext L0.e).trans (hc.2.1.x (Qe _) (by decide))),Fr.gP (((a3.mono λi _ hi=>.inl hi).trans (Fr.fr d1.e)).trans ((Fr.fr L0.e).trans hz.1))⟩
 refine⟨?_,?_⟩
 ·refine rlook I.map x.key.slot rfl ⟨Fr.refl _ _,?_⟩;refine bS (p:Int) λf5 d b2 _ b3=>⟨Fr.fr b2.e,?_⟩;have b4:B<=d.heap.size:=by have:=lz a1 d;have:=I.cell.lt;omega
  refine rappD ⟨rfl,rfl⟩ (W.up (w':=d)) b3 (by simp) b4 (by simp;omega) λv' X b5 J U=>⟨J.mono λi _ hi=>.inr hi,?_⟩;have b7:MapL PP 3 X Q m:=(I.map.up (w':=d)).frO (W.up (w':=d)) J;refine rupd b7 x.key.slot rfl λb8 b9 Y _=>⟨Y.mono λi _ hi=>.inl hi,?_⟩;exact⟨rfl,fin d X b8 v' inferInstance b5 J U b9 Y⟩
 ·refine bS (p:Int) λf5 d b2 _ b3=>⟨Fr.fr b2.e,?_⟩;refine rlook (I.map.up (w':=d)) x.key.slot rfl ⟨Fr.refl _ _,?_⟩;have b4:B<=d.heap.size:=by have:=lz a1 d;have:=I.cell.lt;omega
  refine rappD ⟨rfl,rfl⟩ (W.up (w':=d)) b3 (by simp) b4 (by simp;omega) λv' X b5 J U=>⟨J.mono λi _ hi=>.inr hi,?_⟩;have b7:MapL PP 3 X Q m:=(I.map.up (w':=d)).frO (W.up (w':=d)) J;refine rupd b7 x.key.slot rfl λb8 b9 Y _=>⟨Y.mono λi _ hi=>.inl hi,?_⟩;exact⟨rfl,fin d X b8 v' inferInstance b5 J U b9 Y⟩
def cmpI (x y:Int):Int:=if x<y then -1 else if y<x then 1 else 0
def orI:List Int->Int
 |[]=>0
 |x::r=>if x=0 then orI r else x
theorem zC4{x:Int}{w:World}:Sp PP 277 #[.int .i64 x] w λv w'=>v=.bool false/\w'=w:=by
 refine eN ?_;refine iF (· rfl) ?_;exact⟨rfl,rfl⟩
theorem zAc{x y:Int}{w:World}:Sp PP 197 #[.int .i64 x,.int .i64 y] w λv w'=>v=.int .i64 (cmpI x y)/\w'=w:=by
 unfold cmpI;refine eN ?_;refine rcall (zC4) ?_;rintro v w1 ⟨rfl,rfl⟩;refine rcall (zC4) ?_;rintro v d ⟨rfl,rfl⟩;refine ite (λb=>?_) (λb=>?_)
 ·rw [if_pos b];exact⟨rfl,rfl⟩
 rw [if_neg b];refine ite (λc=>?_) (λc=>?_)
 ·rw [if_pos c];exact⟨rfl,rfl⟩
 rw [if_neg c];exact⟨rfl,rfl⟩
theorem zPg{l:List Int}(h:k<l.length):orI (l.drop k)=if l[k]=0 then orI (l.drop (k+1)) else l[k]:=by
 rw [JS h];rfl
theorem zBT{c:Nat}{l:List Int}{w:World}(h:SlF w (.slice a n c) l)(r:l.length<=1000000):Sp PP 196 #[.slice a n c] w λv w'=>v=.int .i64 (orI l)/\w'=w:=by
 have d:=h.len;obtain rfl:=d;refine eN ?_;refine cN 8 [2,5] 8 l.length (λk u=>orI (l.drop k)=orI l/\u=w) ⟨rfl,rfl⟩ ?_;rintro k g u t ⟨hd,rfl⟩;refine ite (λhlt=>?_) (λp=>?_)
 ·have b:k<l.length:=by omega
  refine rix h (x:=l[k]) (by simp) λy z q=>rload1 (q.cell0 rfl) ?_;have e:=zPg b;refine ite (λf=>?_) (λo=>?_)
  ·rw [if_neg f] at e;rw [<-hd,e];exact⟨rfl,rfl⟩
  ·have o:=Q2.1 o;rw [if_pos o] at e;exact rA ⟨rfl,b,by rw [<-e,hd],rfl⟩
 ·have d:k=l.length:=by omega
  obtain rfl:=d;rw [Yh] at hd;rw [<-hd];exact⟨rfl,rfl⟩
theorem or_neg(x y:Int)(r:List Int):orI (cmpI x y::r)<0↔x<y\/x=y/\orI r<0:=by
 rw [show orI (cmpI x y::r)=if cmpI x y=0 then orI r else cmpI x y from rfl];have c:=XD x y;rcases c with h|h|h
 ·have e:cmpI x y = -1:=by unfold cmpI;rw [if_pos h]
  rw [e,if_neg (by decide)];exact⟨λ_=>.inl h,λ_=>by decide⟩
 ·have e:cmpI x y=0:=by unfold cmpI;rw [if_neg (by omega),if_neg (by omega)]
  rw [e,if_pos rfl];exact⟨λb=>.inr ⟨h,b⟩,λb=>b.elim (λd=>by omega) (·.2)⟩
 ·have e:cmpI x y=1:=by unfold cmpI;rw [if_neg (by omega),if_pos h]
  rw [e,if_neg (by decide)];exact⟨λb=>absurd b (by decide),λb=>by omega⟩
theorem or_nil:¬orI []<0:=by decide
theorem swo_of{α:Type}{cf:α->α->Int}(lt:α->α->Prop)(h:∀x y,cf x y<0↔lt x y)(b:∀x,¬lt x x)(c:∀x y z,lt x y->lt y z->lt x z)(d:∀x y z,¬lt x y->¬lt y z->¬lt x z):Go.Sort.SWO (ltOf cf):=
 ⟨λx=>by simpa [ltOf,h] using b x,λx y z=>by simpa [ltOf,h] using c x y z,λx y z=>by
  have:=d x y z;simp only [ltOf,decide_eq_false_iff_not,h];exact this⟩
end Go.W
namespace Go.Proofs
open Go.Shelf Tryz
def Tryz.sortS_ren:Go.Shelf.Ren:=⟨fun|6=>191|15=>165|14=>275|28=>259|29=>260|20=>346|21=>347|22=>348|23=>349|24=>350|25=>351|26=>352|27=>353|46=>378|47=>330|48=>331|49=>379|50=>380|57=>419|n=>n,fun|22=>112|24=>222|25=>288|3=>3|39=>256|0=>0|53=>334|55=>336|4=>4|46=>328|45=>327|50=>116|5=>5|9=>9|66=>386|70=>390|76=>433|77=>434|n=>n,fun|n=>n⟩
theorem Tryz.sortS:Go.Proofs.SlLaysF0.n6 prog Tryz.sortS_ren:={
 mixed:=by kernel_rfl
 f6:=⟨f191.name,by decide,W.ff func191⟩
 f14:=⟨f275.name,by decide,W.ff func275⟩
 f15:=W.ff func165
 f20:=⟨f346.name,by decide,W.ff func346⟩
 f21:=⟨f347.name,by decide,W.ff func347⟩
 f22:=⟨f348.name,by decide,W.ff func348⟩
 f23:=⟨f349.name,by decide,W.ff func349⟩
 f24:=⟨f350.name,by decide,W.ff func350⟩
 f25:=⟨f351.name,by decide,W.ff func351⟩
 f26:=⟨f352.name,by decide,W.ff func352⟩
 f27:=⟨f353.name,by decide,W.ff func353⟩
 f28:=W.ff func259
 f29:=W.ff func260
 f46:=⟨f378.name,by decide,W.ff func378⟩
 f47:=W.ff func330
 f48:=W.ff func331
 f49:=⟨f379.name,by decide,W.ff func379⟩
 f50:=⟨f380.name,by decide,W.ff func380⟩
 f57:=⟨f419.name,by decide,W.ff func419⟩
 t0:=underlying0
 a0:=isAgg0
 z0:=sizeOf0
 v0:=zeroValue0
 t3:=underlying3
 a3:=isAgg3
 z3:=sizeOf3
 v3:=zeroValue3
 t4:=underlying4
 a4:=isAgg4
 z4:=sizeOf4
 v4:=zeroValue4
 t5:=underlying5
 a5:=isAgg5
 z5:=sizeOf5
 v5:=zeroValue5
 t9:=underlying9
 a9:=isAgg9
 z9:=sizeOf9
 v9:=zeroValue9
 t22:=underlying112
 a22:=isAgg112
 z22:=sizeOf112
 v22:=zeroValue112
 t25:=underlying288
 a25:=isAgg288
 z25:=sizeOf288
 v25:=zeroValue288
 t39:=underlying256
 a39:=isAgg256
 z39:=sizeOf256
 v39:=zeroValue256
 t45:=underlying327
 a45:=isAgg327
 z45:=sizeOf327
 v45:=zeroValue327
 t46:=underlying328
 a46:=isAgg328
 z46:=sizeOf328
 v46:=zeroValue328
 t50:=underlying116
 a50:=isAgg116
 z50:=sizeOf116
 v50:=zeroValue116
 t53:=underlying334
 a53:=isAgg334
 z53:=sizeOf334
 v53:=zeroValue334
 t55:=underlying336
 a55:=isAgg336
 z55:=sizeOf336
 v55:=zeroValue336
 t66:=underlying386
 a66:=isAgg386
 z66:=sizeOf386
 v66:=zeroValue386
 t70:=underlying390
 a70:=isAgg390
 z70:=sizeOf390
 v70:=zeroValue390
 t76:=underlying433
 a76:=isAgg433
 z76:=sizeOf433
 v76:=zeroValue433
 t77:=underlying434
 a77:=isAgg434
 z77:=sizeOf434
 v77:=zeroValue434 }
end Go.Proofs
namespace Go.W
open Go Go.Proofs
open Enc (enc)
set_option maxRecDepth 10000
variable {B N i j k m n:Nat} {D R:Nat -> Prop} {P:Program} {a:Option Addr} {s:List UInt8} {u u' w':World}
theorem zJT{b c size:Nat}{L:List StD}{w:World}(S:StoP R B w b c size L):
  Sp PP 72 #[.pointer (some ⟨b,0,none⟩)] w λv w'=>v=.int .i64 (L.length:Nat)/\Stp w w':=by
 obtain⟨d,ta,tc,ts,e,f,fr,g,st,h,m,l,H,T,M,C,Z⟩:=S;refine eN ?_;refine rpnil (rX H.cell rfl (rcall (Len_sp H.tab) ?_));rintro v w1 ⟨rfl,o⟩;rw [T.len M];exact⟨rfl,stp⟩
instance:Inhabited StD:=⟨zSt⟩
def cfS (a b:StD):Int:=orI [cmpI a.key.dir b.key.dir,cmpI a.key.v b.key.v]
theorem zIf(a b:StD):cfS a b<0↔a.key.dir<b.key.dir\/a.key.dir=b.key.dir/\a.key.v<b.key.v:=by
 unfold cfS;rw [or_neg,or_neg];have:=or_nil;constructor
 ·rintro(h|⟨h,c|⟨_,d⟩⟩)
  ·exact .inl h
  ·exact .inr ⟨h,c⟩
  ·exact absurd d this
 ·rintro(h|⟨h,c⟩)
  ·exact .inl h
  ·exact .inr ⟨h,.inl c⟩
theorem zMy:Go.Sort.SWO (ltOf cfS):=swo_of (λa b=>a.key.dir<b.key.dir\/a.key.dir=b.key.dir/\a.key.v<b.key.v) zIf (λx h=>by omega) (λx y z h k=>by omega) (λx y z h k=>by omega)
theorem zJF{a b:StD}{w:World}:Sp PP 276 #[agg a,agg b] w λv w'=>v=.int .i64 (cfS a b)/\Gw w w':=by
 refine eN ?_;refine rbx λl w1 n1 c=>rbx λo p n2 d=>drawRE TBok mixed (λ_=>False) (.one 0 (.one 1 (.one 2 (.one 3 (.one 4 (.one 5 (.one 7 (.one 8 (.one 9 (.one 10 (.one 11 (.one 12 (.one 6 (.one 13 (.one 14 (.one 15 (.one 16 .nil))))))))))))))))) (by kernel_rfl) λq r g=>?_;refine tX c rfl nf (tX d rfl nf ?_);refine tX c rfl nf (tX d rfl nf ?_);refine rcall zAc ?_;rintro v t ⟨rfl,rfl⟩;refine⟨Fr.refl _ _,?_⟩;refine rcall zAc ?_;rintro v x ⟨rfl,rfl⟩;refine⟨Fr.refl _ _,?_⟩;refine rbsN [cmpI a.key.dir b.key.dir,cmpI a.key.v b.key.v] rfl (vs:=[.int .i64 (cmpI a.key.dir b.key.dir),.int .i64 (cmpI a.key.v b.key.v)]) rfl rfl (by decide) λy z f h=>⟨f.e,?_⟩;refine rcall (zBT h (by simp)) ?_;rintro v A ⟨rfl,rfl⟩;refine⟨Fr.refl _ _,?_⟩;exact⟨rfl,n1.gw.trans (n2.gw.trans (g.trans f.gw))⟩
theorem zMk{b gs size:Nat}{L:List StD}{s:Int}{w:World}(S:StoP R B w b gs size L):
  Sp PP 194 #[.pointer (some ⟨b,0,none⟩),.int .i64 s] w λv w'=>Own w.heap.size 222 w' v (ofS L s)/\Stp w w':=by
 obtain⟨bt,ta,tc,ts,fa,fc,fr,sc,st,bm,m,q,H,T,M,C,Z⟩:=S;have c:=T.of M C s;have U:(ofS L s).length<=L.length:=Qv _ _;have h1:=T.len M;have h2:=T.cnt;have h3:=T.ok.2.1;have t:=c.length_eq;rw [Qr] at t;have J:=H.look s;obtain⟨h,_⟩:=J;refine eN ?_;refine rpnil (rX H.cell rfl (rlook H.map s rfl ?_));have l:∃V,V=(getM m s).getD (.slice none 0 0):=⟨_,rfl⟩;obtain⟨V,K⟩:=l;rw [<-K] at h ⊢;have l:=h.shape;obtain⟨ca,cc,rfl⟩:=l;refine cO 17 [7] 5 17 (q s).length (λk v u=>Own w.heap.size 222 u v (((q s).take k).map λn=>st.getD n.toNat zSt)/\Stp w u) ⟨Own.nil _ _ _,stp⟩ ?_;rintro k v g u hk ⟨O,e⟩;refine ite (λhlt=>?_) (λa0=>?_)
 ·have o:k<(q s).length:=by omega
  refine rix (h.sl.up (w':=u)) (x:=(q s)[k]) (by simp) λb4 o4 A4=>rload1 (A4.cell0 rfl) ?_;have z:=(C s).2 (q s)[k];have l:=z.1 (Qa o);obtain⟨p,I,_,x,X,_⟩:=l;have Y:=H.up (w':=u);refine rX Y.cell rfl ?_;rw [I];refine rixO rfl Y.sts (x:=x) X λg hg _ A=>rloadA A rfl (bS x λb7 u7 e7 _ S7=>rapp1 (u:=w) ⟨rfl,rfl⟩ (O.up (w':=u7)) S7 (by simp;omega) λv8 u8 O8 f8 s8=>rA ⟨rfl,o,?_,stp⟩);rw [take_add o,QB,I];have:([(p:Int)].map λn=>st.getD n.toNat zSt)=[x]:=by simp [X]
  rw [this];exact O8
 ·have l:k=(q s).length:=by omega
  obtain rfl:=l;rw [Qg] at O;refine rcall (zCZ Tryz.sortS (k:=4) (show Agg PP 222 4 from inferInstance) rfl cfS zMy (f:=191) rfl (λx y W=>zJF) O (by simp;omega)) ?_;rintro r u1 ⟨rfl,l',I,hs,O1,f1⟩;have s1:Stw w u u1:=zAI f1;have d:=I.trans c
  have Q:l'=ofS L s:=by
   refine SRis.uniq ?_ (M.ris.sublist (XY ..)) λx=>d.mem_iff;have E:l'.Nodup:=d.nodup_iff.2 (M.ris.nodup.filter _);rw [Qx] at E;refine Vv (λ{a b} ha hb hh=>?_) (hs.and E);have F:=QC.1 (d.mem_iff.1 ha);have G:=QC.1 (d.mem_iff.1 hb);have a1:a.key.slot=s:=by simpa using F.2
   have a2:b.key.slot=s:=by simpa using G.2
   refine zCw (λhl=>hh.1 ((zIf _ _).2 ?_)) (λhe=>hh.2 (M.ris.inj F.1 G.1 he.symm));unfold lessK at hl;omega
  rw [<-Q];exact⟨O1,stp⟩
section
variable {B:Nat} {w u:World} {b gs size bt:Nat} {ta:Option Addr} {tc:Nat} {ts ts':TS} {fa a':Option Addr} {fc c':Nat} {fr fr':List Int} {sc:Nat} {st:List StD} {bm:Nat} {m:List (Int×Value)} {ch:Int->List Int}
theorem StoH.tabd(h:StoH B w b gs size bt ta tc ts fa fc fr sc st bm m ch)(T:TabS B u bt ta tc size ts')(f:FrT B tbE w u):StoH B u b gs size bt ta tc ts' fa fc fr sc st bm m ch:=
 ⟨h.lo,h.cell.kept f (by decide),T,h.free.kept f (by decide),h.sts.kept f (by decide),h.map.kept f (by decide),λs v c=>⟨(h.rows s v c).1.kept f (by decide),(h.rows s v c).2⟩,h.empt,h.apart,h.apart2⟩
theorem StoH.pooled(h:StoH B w b gs size bt ta tc ts fa fc fr sc st bm m ch){w0:World}(O:Own w0.heap.size 3 w (.slice a' fr'.length c') fr')(d:∀s v,(s,v)∈m->∀g,Value.blk v=some g->g<w0.heap.size)
  (C:Bk u b [.pointer (some ⟨bt,0,none⟩),.int .i64 size,.slice a' fr'.length c',.slice (some ⟨gs,0,none⟩) size sc,.map (some bm)] 180)(f:Fr (λi=>i=b) w u):StoH B u b gs size bt ta tc ts a' c' fr' sc st bm m ch/\FrT B [180] w u:=by
 have F:FrT B [180] w u:=h.cell.wrote f h.lo.1 (by decide);refine⟨⟨h.lo,C,h.tab.kept F (by decide) (by decide),O.y.kept F (by decide),h.sts.kept F (by decide),h.map.kept F (by decide),λs v c=>⟨(h.rows s v c).1.kept F (by decide),(h.rows s v c).2⟩,h.empt,h.apart,λe s v c g o l=>?_⟩,F⟩;have p:=O.lt e;obtain⟨r,q,t,_⟩:=p;rw [q] at l;cases l;have:=d s v c _ o;omega
theorem StoH.rowlt(h:StoH B w b gs size bt ta tc ts fa fc fr sc st bm m ch):∀s v,(s,v)∈m->∀g,Value.blk v=some g->g<w.heap.size:=λs v l g f=>by
 have d:=h.rows s v l;obtain⟨e,c⟩:=d;have d:=e.lt c;obtain⟨q,o,_,p⟩:=d;rw [o] at f;cases f;exact p
theorem StoH.del(h:StoH B w b gs size bt ta tc ts fa fc fr sc st bm m ch)(s:Int)(M:MapL PP 3 u bm (delM s m))(f:Fr (λi=>i=bm) w u):
  StoH B u b gs size bt ta tc ts fa fc fr sc st bm (delM s m) (λs'=>if s'=s then [] else ch s')/\FrT B [mapK] w u:=by
 have F:FrT B [mapK] w u:=h.map.wrote f h.lo.2.1 (by decide);have c:=h.map.2;refine⟨⟨h.lo,h.cell.kept F (by decide),h.tab.kept F (by decide) (by decide),h.free.kept F (by decide),h.sts.kept F (by decide),M,λd v l=>?_,λd o=>?_,λd v p q r t=>?_,λe d v l=>?_⟩,F⟩
 ·have g:=(zCb c).1 l;rw [if_neg g.1];have:=h.rows d v g.2;exact⟨this.1.kept F (by decide),this.2⟩
 ·show (if d=s then [] else ch d)=[];split
  ·rfl
  ·rename_i e;refine h.empt d λx=>o ?_;have y:=Qq.1 x;obtain⟨⟨k,v⟩,z,rfl⟩:=y;exact Qq.2 ⟨_,(zCb c).2 ⟨e,z⟩,rfl⟩
 ·exact h.apart d v p q ((zCb c).1 r).2 ((zCb c).1 t).2
 ·exact h.apart2 e d v ((zCb c).1 l).2
end
theorem zJS{b f size:Nat}{L:List StD}{s:Int}{w:World}(S:StoP R B w b f size L):
  Sp PP 114 #[.pointer (some ⟨b,0,none⟩),.int .i64 s] w λv w'=>v=.int .i64 ((ofS L s).length:Nat)/\StoP (gR R w w') B w' b f size (dropS L s)/\FrS f B w w'/\Fr R w w':=by
 obtain⟨bt,ta,tc,ts,fa,fc,fr,sc,st,bm,m,c,H,T,M,C,Z⟩:=S;have t:=T.of M C s;have h1:=T.len M;have h2:=T.cnt;have h3:=T.ok.2.1;have q:=t.length_eq;rw [Qr] at q;have a8:(ofS L s).length<=L.length:=Qv _ _;rw [<-q];have a0:=(C s).1;refine eN ?_;refine rpnil (rX H.cell rfl (rlook H.map s rfl ?_));have y:=H.look s;obtain⟨E,_⟩:=y;have l:∃cv,cv=(getM m s).getD (.slice none 0 0):=⟨_,rfl⟩;obtain⟨cv,F⟩:=l;rw [<-F] at E ⊢;have l:=E.shape;obtain⟨ca,cc,rfl⟩:=l;refine cN 20 [7,8,9] 20 (c s).length (λk u=>∃tk W X,StoH B u b f size bt ta tc tk W X (fr++(c s).take k) sc st bm m c/\StoT size tk (fr++(c s).take k) st/\FrS f B w u/\Fr (gP R w) w u/\FpS (gP R w) b f size bt ta tc W X (fr++(c s).take k) bm m) ⟨ts,fa,fc,by simpa using H,by simpa using T,FrX.refl _ _ _ _,Fr.refl _ _,by simpa using Z.up λ_ h=>.inl h⟩ ?_;rintro k g u hk ⟨tk,W,X,o,Y,Fu,Gu,d⟩;have y:=o.look s;obtain⟨G,_⟩:=y;rw [<-F] at G;refine ite (λhlt=>?_) (λa9=>?_)
 ·have z:k<(c s).length:=by omega
  have I:=(C s).2 (c s)[k];have l:=I.1 (Qa z);obtain⟨p,hp,a1,x,J,b0⟩:=l
  have K:(p:Int)∉fr++(c s).take k:=by
   rw [Qf,not_or];refine⟨a1,λh=>?_⟩;have l:=QI.1 h;obtain⟨j,hj,O⟩:=l;rw [Qm] at hj;rw [VI,<-hp] at O;have:=(VQ a0).1 O;omega
  have b1:(fr++(c s).take k).length<=1000:=by rw [Qb,Qm];omega
  refine rix G.sl (x:=(c s)[k]) (by simp) λb4 o4 A4=>rload1 (A4.cell0 rfl) ?_;rw [hp];refine dD (λi=>i≠b/\i≠f) (upF 13 0) λQ e1=>tX o.cell rfl (λh=>h.1 rfl) (tX o.cell rfl (λh=>h.1 rfl) ?_);have r:=o.up (w':=Q);refine tixO rfl r.sts (x:=x) J λg1 a2 _ A1=>?_;have a3:g1=f:=(QL a2).symm;refine tloadA (cs:=enc x.key) (A1.sub 0 3) rfl (λh=>h.2 a3) (rcall (zPM (k:=x.key) r.tab) ?_);rintro v u2 ⟨rfl,T2,U⟩;have f2:=r.tab.wrote U
  have a4:¬Ty B tbE Q f:=λh=>by
   have hO:=r.sts;have:=hO.blk (by intro h;rw [h] at J;simp at J);obtain⟨g2,b2,e2,_,_,a6,_⟩:=this;cases e2;exact absurd (h.cells a6) (by decide)
  refine⟨Fr.mono f2 λi _ hi=>⟨by rintro rfl;exact absurd (hi.cells r.cell.h) (by decide),by rintro rfl;exact a4 hi⟩,?_⟩;have H2:=r.tabd T2 f2;have F2:FrS f B w u2:=(Fu.trans (FrX.ext e1.e)).trans (f2.x (Qe _) (by decide));refine rldG (ds:=[.int .i64 (size:Nat),.slice W (fr++(c s).take k).length X]) (B:=H2.cell) rfl rfl (rcall (zKG (sz:=(size:Int)) (m:=(p:Int)) H2.free.sl (by omega)) ?_);have b3:p<size:=by rw [<-T.stl];exact(Qy.1 J).1
  have a7:giveP ((size:Int),fr++(c s).take k) (p:Int)=(((size:Int),fr++(c s).take k++[(p:Int)]),0):=by
   unfold giveP;rw [if_pos Y.ok];dsimp only;rw [if_neg (by omega),if_neg K]
  rw [a7];rintro v u3 ⟨⟨pv,rfl,a5,c5,rfl,O5⟩,e5⟩;refine ral λb6 u6 n6 z6=>rS z6 [.int .i64 (size:Nat),.slice a5 (fr++(c s).take k++[(p:Int)]).length c5] (pl_one _ _ _ _) λu7 B7 f7 _=>?_;have s7:Stp u3 u7:=n6.st f7;clear z6 f7;refine iT rfl (rldG (ds:=[.int .i64 (size:Nat),.slice a5 (fr++(c s).take k++[(p:Int)]).length c5]) (B:=B7) rfl rfl ?_);have H7:=H2.up (w':=u7);refine rS H7.cell [.int .i64 (size:Nat),.slice a5 (fr++(c s).take k++[(p:Int)]).length c5] (pl_one _ _ _ _) λu8 C8 f8 _=>?_;have P8:=H7.pooled (O5.up (w':=u7)) H2.rowlt C8 f8;obtain⟨H8,F8⟩:=P8;have Td:=Y.drop K J;have A:fr++(c s).take (k+1)=fr++(c s).take k++[(p:Int)]:=by rw [take_add z,hp,Qp]
  have b5:=Gu.size;have b7:=lz u Q;have b8:=f2.size;refine rA ⟨rfl,z,_,a5,c5,by rw [A];exact H8,by rw [A];exact Td,(F2.trans (FrX.ext Le.e)).trans (F8.x (Qe _) (by decide)),((((Gu.trans (Fr.fr e1.e)).trans (d.tab U)).trans (fE u2 u7)).trans (f8.mono λi _ hi=>hi ▸ d.b)),⟨d.b,d.bt,d.ta,d.gs,d.bm,λb9 g V=>.inr ?_,d.rows⟩⟩;have l:=O5.lt (by simp);obtain⟨g5,h1,h2,_⟩:=l;rw [A] at V;rw [h1] at V;cases V;omega
 ·have l:k=(c s).length:=by omega
  obtain rfl:=l;rw [Qg] at o Y;refine rX o.cell rfl (rdel o.map s rfl λQ M1 f1 _=>?_);have D1:=o.del s M1 f1;obtain⟨r,F1⟩:=D1;have MD:=M.drop C s;rw [Qg] at d;exact⟨rfl,(show StoP (gP R w) B Q b f size (dropS L s) from ⟨bt,ta,tc,_,_,_,_,sc,st,bm,_,_,r,Y,MD.1,MD.2,d.b,d.bt,d.ta,d.gs,d.bm,d.fr,λs2 v hv g V=>d.rows s2 v ((zCb o.map.2).1 hv).2 g V⟩).end,Fu.trans (F1.x (Qe _) (by decide)),Fr.gP (Gu.trans (f1.mono λi _ hi=>hi ▸ d.bm))⟩
end Go.W
namespace Go.Proofs
open Go.Shelf Tryz
def Tryz.sortM_ren:Go.Shelf.Ren:=⟨fun|6=>342|15=>165|14=>376|28=>259|29=>260|20=>411|21=>412|22=>413|23=>414|24=>415|25=>416|26=>417|27=>418|46=>432|47=>330|48=>331|49=>433|50=>434|57=>446|n=>n,fun|22=>110|24=>211|25=>397|3=>3|39=>256|0=>0|53=>334|55=>336|4=>4|46=>328|45=>327|50=>116|5=>5|9=>9|66=>386|70=>390|76=>433|77=>434|n=>n,fun|n=>n⟩
theorem Tryz.sortM:Go.Proofs.SlLaysF0.n6 prog Tryz.sortM_ren:={
 mixed:=by kernel_rfl
 f6:=⟨f342.name,by decide,W.ff func342⟩
 f14:=⟨f376.name,by decide,W.ff func376⟩
 f15:=W.ff func165
 f20:=⟨f411.name,by decide,W.ff func411⟩
 f21:=⟨f412.name,by decide,W.ff func412⟩
 f22:=⟨f413.name,by decide,W.ff func413⟩
 f23:=⟨f414.name,by decide,W.ff func414⟩
 f24:=⟨f415.name,by decide,W.ff func415⟩
 f25:=⟨f416.name,by decide,W.ff func416⟩
 f26:=⟨f417.name,by decide,W.ff func417⟩
 f27:=⟨f418.name,by decide,W.ff func418⟩
 f28:=W.ff func259
 f29:=W.ff func260
 f46:=⟨f432.name,by decide,W.ff func432⟩
 f47:=W.ff func330
 f48:=W.ff func331
 f49:=⟨f433.name,by decide,W.ff func433⟩
 f50:=⟨f434.name,by decide,W.ff func434⟩
 f57:=⟨f446.name,by decide,W.ff func446⟩
 t0:=underlying0
 a0:=isAgg0
 z0:=sizeOf0
 v0:=zeroValue0
 t3:=underlying3
 a3:=isAgg3
 z3:=sizeOf3
 v3:=zeroValue3
 t4:=underlying4
 a4:=isAgg4
 z4:=sizeOf4
 v4:=zeroValue4
 t5:=underlying5
 a5:=isAgg5
 z5:=sizeOf5
 v5:=zeroValue5
 t9:=underlying9
 a9:=isAgg9
 z9:=sizeOf9
 v9:=zeroValue9
 t22:=underlying110
 a22:=isAgg110
 z22:=sizeOf110
 v22:=zeroValue110
 t25:=underlying397
 a25:=isAgg397
 z25:=sizeOf397
 v25:=zeroValue397
 t39:=underlying256
 a39:=isAgg256
 z39:=sizeOf256
 v39:=zeroValue256
 t45:=underlying327
 a45:=isAgg327
 z45:=sizeOf327
 v45:=zeroValue327
 t46:=underlying328
 a46:=isAgg328
 z46:=sizeOf328
 v46:=zeroValue328
 t50:=underlying116
 a50:=isAgg116
 z50:=sizeOf116
 v50:=zeroValue116
 t53:=underlying334
 a53:=isAgg334
 z53:=sizeOf334
 v53:=zeroValue334
 t55:=underlying336
 a55:=isAgg336
 z55:=sizeOf336
 v55:=zeroValue336
 t66:=underlying386
 a66:=isAgg386
 z66:=sizeOf386
 v66:=zeroValue386
 t70:=underlying390
 a70:=isAgg390
 z70:=sizeOf390
 v70:=zeroValue390
 t76:=underlying433
 a76:=isAgg433
 z76:=sizeOf433
 v76:=zeroValue433
 t77:=underlying434
 a77:=isAgg434
 z77:=sizeOf434
 v77:=zeroValue434 }
end Go.Proofs
namespace Go.W
open Go Go.Proofs Go.Shelf
open Enc (enc)
variable {B N i j k m n:Nat} {D R:Nat -> Prop} {P:Program} {a:Option Addr} {s:List UInt8} {u u' w':World}
theorem zFy{c:Type}[Inhabited c](f:c->Value)(o:Nat)(d:Array c)(b:Array Value):Go.Sort.putCells f o d b=Go.Sort.putCells id o (d.map f) b:=by
 unfold Go.Sort.putCells;apply Array.ext
 ·simp
 ·intro i e g;simp only [Array.getElem_mapIdx,Array.size_map,id];split
  ·rename_i h;rw [getElem!_pos d (i - o) (by omega),getElem!_pos (d.map f) (i - o) (by simp;omega)];simp
  ·rfl
theorem zKj(l:List Int):flat l=l.map (Value.int .i64):=by
 induction l with
 |nil=>rfl
 |cons x r b=>rw [flat_cons,b];rfl
theorem takeC(F b:Array Value)(h:F.size<=b.size):(Go.Sort.putCells id 0 F b).toList.take F.size=F.toList:=by
 apply Vl;intro j;rw [Vh];split
 ·rename_i c;rw [Jj,Jj];unfold Go.Sort.putCells;rw [Array.getElem?_mapIdx,QT (by omega:j<b.size),JD,if_pos ⟨by omega,by omega⟩,QT c,JF,getElem!_pos _ j c];rfl
 ·rename_i c;rw [Jg (by simp;omega)]
abbrev srtI (l:List Int):List Int:=l.mergeSort λx y=>decide (x<=y)
section
variable {P:Program} {w:World}
theorem zPH{ρ:Ren}(L:SlLaysN.n53 P ρ){f:FuncId}(O:ρ.f 53=f){e:TypeId}{v:Value}{l:List Int}(h:Own B e w v l)(q:l.length<4611686018427387904):
  Sp P f #[v] w λr w'=>r=.tuple #[]/\Own B e w' v (srtI l)/\Fr (ownD B v) w w':=by
 subst O
 have can:callable P (ρ.f 53):=by
  obtain⟨X,Q,S⟩:=L.f53;exact⟨_,S,rfl,Q⟩
 obtain⟨a,c,rfl⟩:=h.shape;refine⟨can,?_⟩;by_cases F:l=[]
 ·subst F;refine(AnyG.slices_Sort_int_none (P:=P) (ρ:=ρ) L a c w).mono ?_;rintro en w' ⟨rfl,rfl⟩;have T:srtI ([]:List Int)=[]:=by simp [srtI]
  rw [T];exact⟨rfl,h,Fr.refl _ _⟩
 ·obtain⟨g,t,rfl,Y,J,y,U,G,z,b⟩:=h.blk F;have x:Enc.sz Int=1:=rfl;rw [x,Xq] at b;rw [zKj] at b
  have V:Go.Sort.Holds (Value.int .i64) w g 0 l.toArray:=by
   intro j K;have A:j<l.length:=by simpa using K
   constructor
   ·rw [cell_of_row w g (0+j) t e (0,0) y,JO];have:(l.map (Value.int .i64))[j]? = t[j]?:=by rw [<-b,Vh,if_pos A,Jj]
    rw [<-this,getElem!_pos l.toArray j K];simp [A]
   ·simp [World.frozen?,y]
  have C:=AnyG.slices_Sort_int L g 0 c l w V (blk_lt y) q;refine C.mono ?_;rintro en w' ⟨rfl,m,os,rfl⟩;have p:(srtI l).length=l.length:=List.length_mergeSort _
  have d:∀i,i<w.heap.size->(Go.Sort.grow (Go.Sort.putRow (Value.int .i64) (Go.Sort.ahead w m) g 0 (srtI l).toArray) os).heap[i]? = (w.heap.modify g (Go.Sort.onCells (Go.Sort.putCells (Value.int .i64) 0 (srtI l).toArray)))[i]?:=by
   intro i hi;rw [XN _ _ (by simpa [Go.Sort.putRow,Go.Sort.mapBlock,Go.Sort.ahead] using hi)];rfl
  have H:=blk_lt y;refine⟨rfl,.inr ⟨zAl _,.inr ⟨g,c,Go.Sort.putCells (Value.int .i64) 0 (srtI l).toArray t,by rw [p],J,?_,by rw [p];omega,G,?_,?_⟩⟩,⟨rfl,rfl,rfl,?_,λi hi I=>?_,λi o E W=>?_⟩⟩
  ·rw [d g H,Jv,if_pos rfl,y];rfl
  ·simpa [Go.Sort.putCells] using z
  ·rw [zFy,zKj,x,Xq];have M:((srtI l).toArray.map (Value.int .i64)).size=(srtI l).length:=by simp
   have:=takeC ((srtI l).toArray.map (Value.int .i64)) t (by rw [M,p];rw [x] at z;omega);rw [M] at this;rw [this];simp
  ·simp [Go.Sort.grow,Go.Sort.putRow,Go.Sort.mapBlock,Go.Sort.ahead]
  ·rw [d i hi,Jv,if_neg (λh=>I (by subst h;exact⟨J,rfl,h.not0 F⟩))]
  ·rw [d i (blk_lt E),Jv];by_cases hi:g=i
   ·subst hi;rw [y] at E;cases E;cases W
   ·rw [if_neg hi];exact E
theorem zJt(l:List Int):(srtI l).Perm l:=List.mergeSort_perm _ _
theorem zOz(l:List Int):(srtI l).Pairwise (·<=·):=by
 have:=List.pairwise_mergeSort (le:=λx y:Int=>decide (x<=y)) (λa b c d e=>by simp at *;omega) (λa b=>by simp;omega) l;exact this.imp λh=>by simpa using h
end
section
variable {α:Type} [Enc α] [Inhabited α] {w:World}
omit [Inhabited α] in
theorem zI3{val:α->Value}(b:∀x:α,enc x=[val x])(l:List α):flat l=l.map val:=by
 induction l with
 |nil=>rfl
 |cons x r c=>rw [flat_cons,c,b];rfl
theorem sz_one{val:α->Value}(b:∀x:α,enc x=[val x]):Enc.sz α=1:=by
 rw [<-Enc.len (default:α),b];rfl
theorem zI9{val:α->Value}(d:∀x:α,enc x=[val x]){e:TypeId}{l:List α}{g:Nat}{b:Array Value}(f:w.heap[g]? = some (.cells b e (0,0)))(h:b.toList.take (l.length*Enc.sz α)=flat l):Go.Sort.Holds val w g 0 l.toArray:=by
 rw [sz_one d,Xq,zI3 d] at h;intro j o;have c:j<l.length:=by simpa using o
 constructor
 ·rw [cell_of_row w g (0+j) b e (0,0) f,JO];have:(l.map val)[j]? = b[j]?:=by rw [<-h,Vh,if_pos c,Jj]
  rw [<-this,getElem!_pos l.toArray j o];simp [c]
 ·simp [World.frozen?,f]
theorem zMQ{val:α->Value}(I:∀x:α,enc x=[val x]){e:TypeId}{g c:Nat}{l l':List α}{os:Array Obj}(h:Own B e w (.slice (some ⟨g,0,none⟩) n c) l)(J:l≠[])(p:l'.length=l.length){y:Type}[Inhabited y](b:y->Value)(d:Array y)(hd:d.map b=l'.toArray.map val):
  Own B e (Go.Sort.grow (Go.Sort.putRow b (Go.Sort.ahead w m) g 0 d) os) (.slice (some ⟨g,0,none⟩) n c) l'/\Fr (ownD B (.slice (some ⟨g,0,none⟩) n c)) w (Go.Sort.grow (Go.Sort.putRow b (Go.Sort.ahead w m) g 0 d) os):=by
 have h0:=h;have z:=h.blk J;obtain⟨T,q,A,M,K,C,O,E,r,F⟩:=z;cases A;have t:=sz_one I
 have f:∀i,i<w.heap.size->(Go.Sort.grow (Go.Sort.putRow b (Go.Sort.ahead w m) g 0 d) os).heap[i]? = (w.heap.modify g (Go.Sort.onCells (Go.Sort.putCells b 0 d)))[i]?:=by
  intro i hi;rw [XN _ _ (by simpa [Go.Sort.putRow,Go.Sort.mapBlock,Go.Sort.ahead] using hi)];rfl
 have G:=blk_lt C;refine⟨.inr ⟨zAl _,.inr ⟨g,c,Go.Sort.putCells b 0 d q,by rw [p,<-M],K,?_,by rw [p];omega,E,?_,?_⟩⟩,⟨rfl,rfl,rfl,?_,λi hi H=>?_,λi o v Q=>?_⟩⟩
 ·rw [f g G,Jv,if_pos rfl,C];rfl
 ·simpa [Go.Sort.putCells] using r
 ·rw [zFy,hd,zI3 I,t,Xq];have L:(l'.toArray.map val).size=l'.length:=by simp
  have:=takeC (l'.toArray.map val) q (by rw [L,p];rw [t] at r;omega);rw [L] at this;rw [this];simp
 ·simp [Go.Sort.grow,Go.Sort.putRow,Go.Sort.mapBlock,Go.Sort.ahead]
 ·rw [f i hi,Jv,if_neg (λS=>H (by subst S;exact⟨K,rfl,h0.not0 J⟩))]
 ·rw [f i (blk_lt v),Jv];by_cases hi:g=i
  ·subst hi;rw [C] at v;cases v;cases Q
  ·rw [if_neg hi];exact v
variable {P:Program}
theorem zPG{ρ t:Ren}(L:SlLaysF.n6 P ρ)(X:SlLaysF0.n6 P t){val:α->Value}(H:∀x:α,enc x=[val x])(cf:α->α->Int)(Y:Go.Sort.SWO (ltOf cf)){f g:FuncId}(Z:ρ.f 6=f)(I:t.f 6=f)
  (S:∀(x y:α) (W:World),Sp P g #[val x,val y] W λv w'=>v=.int .i64 (cf x y)/\Gw W w'){e:TypeId}{v:Value}{l:List α}(h:Own B e w v l)(d:l.length<4611686018427387904):
  Sp P f #[v,.func (.func g) #[] #[]] w λr w'=>r=.tuple #[]/\∃l',l'.Perm l/\l'.Pairwise (λa b=>cf b a<0->False)/\Own B e w' v l'/\Fr (ownD B v) w w':=by
 subst Z
 have can:callable P (ρ.f 6):=by
  obtain⟨nm,J,h2⟩:=L.f6;exact⟨_,h2,rfl,J⟩
 obtain⟨a,c,rfl⟩:=h.shape;refine⟨can,?_⟩;by_cases K:l=[]
 ·subst K;have:=AnyF.slices_SortFunc_none (P:=P) (ρ:=t) X a c (.func (.func g) #[] #[]) w;rw [I] at this;refine this.mono ?_;rintro en w' ⟨rfl,rfl⟩;exact⟨rfl,[],.refl _,.nil,h,Fr.refl _ _⟩
 ·obtain⟨g0,a0,rfl,hn,hb,T,a1,a2,a3,z⟩:=h.blk K;have hd:l.toArray.size=l.length:=by simp
  have C:callable P g:=(S default default w).can;have J:OneCell val:=λx=>Enc.one x _ (by rw [H];simp)
  have E:CmpLays1 P g #[] val cf g0 0 l.toArray.size w:=by
   intro m os dk _ x y;refine(S x y _).calls.mono ?_;intro en w' U
   cases en with
   |returned v=>obtain⟨rfl,q,M,G⟩:=U;exact⟨rfl,q,M,G⟩
   |_=>exact U.elim
  have o:=Any.slices_SortFunc L val J cf Y g #[] g0 0 c l.toArray w (λargs w=>zAW C w) E (zI9 H T (hn ▸ z)) (blk_lt T) (by rw [hd];exact d);rw [hd] at o;refine o.mono ?_;rintro en w' ⟨rfl,p,m,os,⟨O,_,F⟩,hs,rfl⟩;have A:p.size=l.length:=by rw [O,hd]
  have e1:p.extract 0 l.length=p:=by rw [<-A];simp
  have e2:l.toArray.extract 0 l.length=l.toArray:=by rw [<-hd];simp
  rw [e1,e2] at F;have G:=zMQ H (l':=p.toList) (m:=m) (os:=os) h K (by simpa using A) val p (by simp);refine⟨rfl,p.toList,by simpa using F,?_,G.1,G.2⟩;rw [QX];intro i j hi V Q hlt;have:=hs i j (XE _) Q (by simpa [A] using V);simp only [ltOf] at this;rw [getElem!_pos p j (by simpa using V),getElem!_pos p i (by simpa using hi)] at this;simp only [Array.getElem_toList] at hlt;simp [hlt] at this
end
instance:Inhabited ByteArray:=⟨⟨#[]⟩⟩
theorem zPI{w:World}{ρ:Ren}(L:SlLaysN.n54 P ρ){f:FuncId}(I:ρ.f 54=f){e:TypeId}{v:Value}{l:List ByteArray}(h:Own B e w v l)(d:l.length<4611686018427387904):
  Sp P f #[v] w λr w'=>r=.tuple #[]/\∃l',l'.Perm l/\l'.Pairwise (λa b=>a.data.toList<=b.data.toList)/\Own B e w' v l'/\Fr (ownD B v) w w':=by
 subst I
 have can:callable P (ρ.f 54):=by
  obtain⟨W,q,A⟩:=L.f54;exact⟨_,A,rfl,q⟩
 obtain⟨a,c,rfl⟩:=h.shape;refine⟨can,?_⟩;by_cases C:l=[]
 ·subst C;refine(AnyG.slices_Sort_string_none (P:=P) (ρ:=ρ) L a c w).mono ?_;rintro en w' ⟨rfl,rfl⟩;exact⟨rfl,[],.refl _,.nil,h,Fr.refl _ _⟩
 ·obtain⟨g,J,rfl,K,X,G,O,Q,S,p⟩:=h.blk C;have E:=zI9 (val:=Value.string) (λ_=>rfl) G (K ▸ p)
  have T:Go.Sort.Holds encStr w g 0 (l.map λs=>s.data.toList).toArray:=by
   intro j U;have t:j<l.length:=by simpa using U
   have q:=E j (by simpa using t);rw [getElem!_pos _ j (by simpa using t)] at q ⊢;simpa [encStr] using q
  have o:=AnyG.slices_Sort_string L g 0 c (l.map λs=>s.data.toList) w T (blk_lt G) (by simpa using d);rw [Qr] at o;refine o.mono ?_;rintro en w' ⟨rfl,m,os,rfl⟩;obtain⟨M,z⟩:∃M,M=(l.map λs=>s.data.toList).mergeSort λx y=>decide (x<=y):=⟨_,rfl⟩;rw [<-z];have F:M.length=l.length:=by rw [z,List.length_mergeSort,Qr]
  have H:=zMQ (val:=Value.string) (λ_=>rfl) (l':=M.map λs=>(⟨s.toArray⟩:ByteArray)) (m:=m) (os:=os) h C (by simp [F]) encStr M.toArray (by simp [encStr]);refine⟨rfl,M.map λs=>(⟨s.toArray⟩:ByteArray),?_,?_,H.1,H.2⟩
  ·have V:M.Perm (l.map λs=>s.data.toList):=by rw [z];exact List.mergeSort_perm _ _
   have:=V.map λs=>(⟨s.toArray⟩:ByteArray);rw [VM] at this;have e:((λs:List UInt8=>(⟨s.toArray⟩:ByteArray)) ∘ λs:ByteArray=>s.data.toList)=id:=by funext s;simp
   rw [e,List.map_id] at this;exact this
  ·rw [QY];have:=List.pairwise_mergeSort (le:=λx y:List UInt8=>decide (x<=y)) (λa b c q A=>by simp at *;exact List.le_trans q A) (λa b=>by simp;exact List.le_total a b) (l.map λs=>s.data.toList);rw [<-z] at this;exact this.imp λh=>by simpa using h
def BldB (T e:TypeId) (B b:Nat) (l:List UInt8) (w:World):Prop:=Lib.IsBuilderF T e B b (Lib.byteCells l) w
theorem zPX{T e:TypeId}{b:Nat}{w:World}(c:B<=b)(k:Bk w b [.pointer none,.slice none 0 0] T):BldB T e B b [] w:=
 .inl ⟨c,.slice none 0 0,k.h,World.ownsRowF_nil w B e 1,by simp [Value.ownBlock]⟩
theorem atF_fr{T e:TypeId}{b:Nat}{p:Value}{bs:List Value}{w:World}(h:Lib.BuilderAtF T e B b p bs w)(f:Fr D w w')(hd:∀i c t z,w.heap[i]? = some (.cells c t z)->(t=T/\i=b\/t=e/\B<=i)->¬D i):Lib.BuilderAtF T e B b p bs w':=by
 obtain⟨y,v,r,d,o⟩:=h;refine⟨y,v,f.blk r (hd _ _ _ _ r (.inl ⟨rfl,rfl⟩)),⟨d.1,?_⟩,o⟩;rcases d.2 with A|⟨g,cap,q,fz,rfl,x,l,rest⟩
 ·exact .inl A
 ·exact .inr ⟨g,cap,q,fz,rfl,x,f.blk l (hd _ _ _ _ l (.inr ⟨rfl,x⟩)),rest⟩
theorem BldB.fr{T e:TypeId}{b:Nat}{l:List UInt8}{w:World}(h:BldB T e B b l w)(f:Fr D w w')(hd:∀i c t z,w.heap[i]? = some (.cells c t z)->(t=T/\i=b\/t=e/\B<=i)->¬D i):BldB T e B b l w':=by
 rcases h with h|h
 ·exact .inl (atF_fr h f hd)
 ·exact .inr (atF_fr h f hd)
theorem BldB.up{T e:TypeId}{b:Nat}{l:List UInt8}{w:World}[L:Le w w'](h:BldB T e B b l w):BldB T e B b l w':=h.fr L.e λ_ _ _ _ _ _ h=>h
theorem BldB.obj{T e:TypeId}{b:Nat}{l:List UInt8}{w:World}(h:BldB T e B b l w):∃c z,w.heap[b]? = some (.cells c T z):=by
 rcases h with ⟨_,v,d,_⟩|⟨_,v,d,_⟩ <;> exact⟨_,_,d⟩
theorem zIV{T e:TypeId}{b:Nat}{l:List UInt8}{w:World}(h:BldB T e B b l w)(g:Go.RowKit.Below B w w')(p:Lib.OthersKept e (some b) w w'):FrX (λi=>i=b) B [e] w w':=by
 refine⟨g.os,g.tape,g.output,g.size,λi hi hd=>?_,λi o d q=>?_⟩
 ·obtain⟨o,d⟩:∃o,w.heap[i]? = some o:=⟨_,QT hi⟩;by_cases r:i<B
  ·exact g.block i r
  ·rw [d];refine p i o d (λf=>hd (.inl (QL f))) λc fz f=>hd (.inr ?_);subst f;exact Ty.mk (by omega) d (by simp)
 ·obtain⟨c,z,t⟩:=h.obj;refine p i o d (λf=>?_) λc fz f=>?_
  ·have:i=b:=QL f;subst this;rw [t] at d;cases d;cases q
  ·subst f;cases q
section
variable {P:Program}
theorem zNV{ρ:Ren}(L:Lays.n166 P ρ)(X:Builder.Extra P ρ){f:FuncId}{T e:TypeId}(d:ρ.f 166=f)(g:ρ.t 72=T)(o:ρ.t 5=e)(p:callable P f){b:Nat}{l m:List UInt8}{w:World}(h:BldB T e B b l w)(q:B<=w.heap.size)(c:l.length+m.length<=140737488355328):
  Sp P f #[.pointer (some ⟨b,0,none⟩),.string ⟨m.toArray⟩] w λv w'=>v=.tuple #[.int .i64 m.length,.nilIface]/\BldB T e B b (l++m) w'/\FrX (λi=>i=b) B [e] w w':=by
 subst d;subst g;subst o;refine⟨p,(Any.Builder_WriteString_k L X B b (Lib.byteCells l) ⟨m.toArray⟩ w h (by rw [Lib.byteCells_length];exact c) q).mono ?_⟩;rintro en w' ⟨rfl,r,x,y⟩;refine⟨rfl,.inr ?_,zIV h x y⟩;rw [Lib.byteCells_append];exact r
theorem zNc{ρ:Ren}(L:Lays.n169 P ρ)(X:Builder.Extra P ρ){f:FuncId}{T e:TypeId}(c:ρ.f 169=f)(d:ρ.t 72=T)(g:ρ.t 5=e)(o:callable P f){b:Nat}{l:List UInt8}{w:World}(h:BldB T e B b l w)(p:B<=w.heap.size):
  Sp P f #[.pointer (some ⟨b,0,none⟩)] w λv w'=>v=.string ⟨l.toArray⟩/\BldB T e B b l w'/\FrX (λi=>i=b) B [e] w w':=by
 subst c;subst d;subst g;refine⟨o,(Any.Builder_String_any_k L X B b l w h p).mono ?_⟩;rintro en w' ⟨rfl,q,r,x⟩;exact⟨rfl,q,zIV h r x⟩
theorem FnAt.can{f:FuncId}{b:Func}(h:FnAt P f b n):callable P f:=⟨b,h.hf,h.hb,h.hm⟩
end
end Go.W
