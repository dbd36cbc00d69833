/-
  Proved here: a part of the walks and plain laws of this claim (merged by a program of mine).
  Conditions: those that each fact names.
-/
import Derived.Shelf.Lays
import Derived.Test.YtgjanodnkajinaaGreatProg
import Derived.Shelf.Small.Strs
import Derived.Shelf.SlLaysF0
import Derived.Shelf.SlLaysF
import Derived.Test.YtgjanodnkajinaaGreatJ2
set_option maxHeartbeats 4000000
set_option linter.unusedVariables false
set_option linter.unusedSimpArgs false
namespace Go.W
open Go Go.Proofs
open Enc (enc)
set_option maxRecDepth 10000
variable {B hi i j k m n n2:Nat} {D:Nat -> Prop} {P:Program} {a a2:Option Addr} {g:GrD} {ps:List Int} {q:QyD} {s:List UInt8} {u u' w w' w1 w2:World}
theorem int_o(x:Int):∀u∈[Value.int .i64 x],u.oneCell'=true:=by simp;rfl
theorem rremT{kd:IntKind}{x y:Int}{k:Value->World->Prop}(h1:0<y)(hk:k (.int kd (x.tmod y)) w):RemS kd x y k w:=by
 rw [zCB];exact⟨by omega,hk⟩
theorem zOz{x y:Int}(h:0<y):- y<x.tmod y/\x.tmod y<y:=by
 have q_:=Int.le_total 0 x
 rcases q_ with h0|h0
 ·rw [Int.tmod_eq_emod_of_nonneg h0]
  have h1:=Int.emod_nonneg x (show y≠0 by omega)
  have h2:=Int.emod_lt_of_pos x h
  omega
 ·have e:x.tmod y = -((-x) % y):=by
   have:x = -(-x):=by omega
   rw [this,Int.neg_tmod,Int.tmod_eq_emod_of_nonneg (by omega)];simp
  have h1:=Int.emod_nonneg (-x) (show y≠0 by omega)
  have h2:=Int.emod_lt_of_pos (-x) h
  omega
theorem zJX{n p:Int}(hn:1<=n/\n<=1000000):Sp PP F.qa0 #[.int .i64 n,.int .i64 p] w λv w'=>(∃k:Int,v=.tuple #[.int .i64 k,.bool true]/\0<=k/\k<n)/\w'=w:=by
 refine en TBok rfl ?_
 refine iF (by omega) (rremT (by omega) ?_)
 have hb:=zOz (x:=p) (y:=n) (by omega)
 refine ite (λh=>?_) (λh=>?_)
 ·refine rA ?_
  exact⟨⟨_,rfl,by omega,by omega⟩,rfl⟩
 ·exact⟨⟨_,rfl,by omega,by omega⟩,rfl⟩
theorem tslO{α:Type}[Enc α]{t e:TypeId}{z:Value}{sz by':Nat}[ht:SlT P t e][he:Elem P e z sz by']{k:Value->Prop}{c:Nat}{l:List α}(lo hi:Option Nat)(h:Own B e w (.slice a n c) l)(h1:lo.getD 0<=hi.getD n)(h2:hi.getD n<=n)
  (hk:∀a' c',(hi.getD n - lo.getD 0=0\/∃g,Value.blk (.slice a n c)=some g/\a'=some ⟨g,lo.getD 0*sz,none⟩)->k (.slice a' (hi.getD n - lo.getD 0) c')):TakeS P (Instr.sliceAt t (.slice a n c) (loV lo) (loV hi) none) D k w:=by
 have hnc:n<=c:=by obtain⟨a',c',hv,hc,_⟩:=h.sl;cases hv;exact hc
 rw [zAg]
 refine⟨_,λw' _=>zBk ht he lo hi h1 (by omega) w',hk _ _ ?_⟩
 by_cases h0:hi.getD n - lo.getD 0=0
 ·exact .inl h0
 ·right
  have hn:n=l.length:=by obtain⟨a',c',hv,hc,_⟩:=h.sl;cases hv;rfl
  obtain⟨g,cur,rfl,_⟩:=h.blk (by intro h0;subst h0;simp at hn;omega)
  exact⟨g,rfl,by rw [if_neg (by omega)];simp [zAv]⟩
theorem Fr.st'{E:Nat->Prop}{a b c:World}(h:Fr D a b)(f:Fr E b c)(hE:∀i,E i->a.heap.size<=i):Fr D a c:=
 ⟨f.os.trans h.os,f.tape.trans h.tape,f.output.trans h.output,Nat.le_trans h.size f.size,λi hi hd=>(f.block i (Nat.lt_of_lt_of_le hi h.size) λhe=>absurd (hE i he) (by omega)).trans (h.block i hi hd),λi o ho hr=>f.nc i o (h.nc i o ho hr) hr⟩
structure PickS (w0 w:World) (bi bp:Nat) (a:Option Addr) (c:Nat) (ps:List Int) (j:Int):Prop where
 ext:Ext w0 w
 row:SlF w0 (.slice a ps.length c) ps
 i:Bk w bi [.int .i64 j] E.qa
 p:Bk w bp [.slice a ps.length c] E.q7
 lo:w0.heap.size<=bi
 ne:bp≠bi
abbrev pickV (bi bp:Nat):Value:=.func (.func F.pd) #[] #[.pointer (some ⟨bi,0,none⟩),.pointer (some ⟨bp,0,none⟩)]
theorem PickS.up{w0:World}[Le w w']{bi bp:Nat}{c:Nat}{j:Int}(h:PickS w0 w bi bp a c ps j):PickS w0 w' bi bp a c ps j:=
 ⟨h.ext.trans Le.e,h.row,h.i.mv,h.p.mv,h.lo,h.ne⟩
theorem PickS.fr{w0:World}{bi bp:Nat}{c:Nat}{j:Int}(h:PickS w0 w bi bp a c ps j)(f:Fr D w w')(h1:¬D bi)(h2:¬D bp)(h3:∀i,D i->w0.heap.size<=i):PickS w0 w' bi bp a c ps j:=
 ⟨Fr.st h.ext f h3,h.row,h.i.fr f h1,h.p.fr f h2,h.lo,h.ne⟩
theorem zFg{n j:Int}{bi bp:Nat}{c:Nat}{w0:World}(hn:1<=n/\n<=1000000)(hj:-1<=j/\j<=1000000000)(S:PickS w0 w bi bp a c ps j):
  Sp PP F.pd #[.int .i64 n,.pointer (some ⟨bi,0,none⟩),.pointer (some ⟨bp,0,none⟩)] w λv w'=>(∃k:Int,v=.int .i64 k/\0<=k/\k<n)/\PickS w0 w' bi bp a c ps (j+1)/\Fr (λi=>i=bi) w w':=by
 refine en TBok rfl ?_
 refine rld (B:=S.i) rfl (rA (rsto (B:=S.i) (vs:=[.int .i64 (j+1)]) rfl rfl rfl (int_o _) λw2 I2 f2 _=>?_))
 have I2:Bk w2 bi [.int .i64 (j+1)] E.qa:=I2
 have S2:PickS w0 w2 bi bp a c ps (j+1):=⟨Fr.st S.ext f2 λi hi=>by have:=S.lo;omega,S.row,I2,S.p.fr f2 S.ne,S.lo,S.ne⟩
 refine rld (B:=S2.i) rfl (rld (B:=S2.p) rfl (ite (λh=>⟨⟨0,rfl,by omega,by omega⟩,S2,f2⟩) (λh=>?_)))
 refine rld (B:=S2.p) rfl (rld (B:=S2.i) rfl ?_)
 have q_:∃m:Nat,j+1=(m:Int):=⟨(j+1).toNat,by omega⟩
 obtain⟨m,hm⟩:=q_
 have hml:m<ps.length:=by omega
 rw [hm]
 refine rix (S2.row.ext S2.ext) (x:=ps[m]) (by simp) λb1 o1 A1=>rload1 (A1.cell0 rfl) (rcall (zJX hn) ?_)
 rintro _ w3 ⟨⟨k,rfl,h1,h2⟩,rfl⟩
 exact⟨⟨k,rfl,h1,h2⟩,hm ▸ S2,f2⟩
theorem zG5{c:Nat}(h:SlF w (.slice a n c) ps):Sp PP F.qa8 #[.slice a n c] w λv w'=>(∃bi bp,v=pickV bi bp/\PickS w w' bi bp a c ps (-1)/\bp<w'.heap.size/\w.heap.size<=bp)/\Stp w w':=by
 have q_:=h.len
 obtain rfl:=q_
 refine en TBok rfl ?_
 refine rbx λbp w1 n1 B1=>ral λbi w2 n2 Z2=>?_
 have hb1:=n1.b;have hs1:=n1.s;have hb2:=n2.b;have hs2:=n2.s
 refine rsto (B:=Z2) (vs:=[.int .i64 (-1)]) rfl rfl rfl (int_o _) λw3 I3 f3 _=>?_
 have I3:Bk w3 bi [.int .i64 (-1)] E.qa:=I3
 have s3:Stp w w3:=⟨Fr.st (Le.e (a:=w) (b:=w2)) f3 λi hi=>by omega⟩
 have B3:=(B1.mv (w:=w2)).fr f3 (by omega)
 exact⟨⟨bi,bp,rfl,⟨s3.e,h,I3,B3,by omega,by omega⟩,B3.lt,by omega⟩,s3⟩
structure OrdII (B:Nat) (w0 u:World) (bi bp:Nat) (a:Option Addr) (c:Nat) (ps:List Int) (g cc:Nat) (l:List Int) (vl vo:Value) (n:Nat):Prop where
 ex:∃(L out:List Int),vl=.slice (some ⟨g,0,none⟩) L.length cc/\L.length=n/\Own B E.qa u (.slice (some ⟨g,0,none⟩) L.length cc) L/\Own B E.qa u vo out/\(out++L).Perm l/\(∀b,Value.blk vo=some b->b≠g)/\PickS w0 u bi bp a c ps (-1+out.length)
theorem zEH{al:Option Addr}{nl cl:Nat}{l:List Int}{bi bp:Nat}{c:Nat}{w0:World}(hl:SlF w0 (.slice al nl cl) l)(hn:l.length<=100000)(S:PickS w0 w bi bp a c ps (-1)):
  Sp PP F.p1 #[.slice al nl cl,pickV bi bp] w λv w'=>(∃l',l'.Perm l/\Own w.heap.size E.qa w' v l')/\Fr (λi=>i=bi) w w':=by
 have q_:=hl.len
 obtain rfl:=q_
 have hlo:=S.lo
 have hbi:=S.i.lt
 have hbp:=S.p.lt
 refine en TBok rfl ?_
 refine rmk (default:Int) rfl rfl (by omega) λg w1 O1 s1 hg1=>?_
 have S1:=S.up (w':=w1)
 refine rcp (u:=w) (lo:=0) rfl O1 (hl.ext S1.ext) (.inr ⟨g,rfl,by simp⟩) (by simp) (by simp) λw2 O2 f2 s2 _=>?_
 have e2:(List.replicate l.length (default:Int)).take 0++l++(List.replicate l.length (default:Int)).drop (0+l.length)=l:=by simp
 rw [e2] at O2
 have S2:PickS w0 w2 bi bp a c ps (-1):=S1.fr f2 (λhd=>by have:=hd.1;omega) (λhd=>by have:=hd.1;omega) (λi hd=>by have:=hd.1;omega)
 have F2:Fr (λi=>i=bi) w w2:=Fr.fr (Fr.st s1.e f2 λi hd=>hd.1)
 clear O1 S1
 refine loop2 TBok 14 [7] 5 6 (λvl vo u=>(∃n,OrdII w.heap.size w0 u bi bp a c ps g l.length l vl vo n)/\Fr (λi=>i=bi) w u) (λvl _ _=>match vl with | .slice _ n _=>n|_=>0) rfl ⟨⟨_,⟨l,[],rfl,rfl,O2,Own.nil _ _ _,.refl _,(λb hb=>nomatch hb),by simpa using S2⟩⟩,F2⟩ ?_
 rintro vl vo G u ⟨⟨n,⟨L,out,rfl,hLn,OL,OO,hp,hne,Su⟩⟩,Fu⟩
 have hlen:=hp.length_eq
 rw [List.length_append] at hlen
 have hzu:=Fu.size
 refine ite (λhgt=>?_) (λhle=>?_)
 ·have hL0:0<L.length:=by omega
  have hLne:L≠[]:=by intro h;rw [h] at hL0;simp at hL0
  refine rcall (zFg (n:=(L.length:Int)) (by omega) (by omega) Su) ?_
  rintro _ u3 ⟨⟨k,rfl,hk0,hk1⟩,S3,f3⟩
  have q_:∃p:Nat,k=(p:Int):=⟨k.toNat,by omega⟩
  obtain⟨p,rfl⟩:=q_
  have hpL:p<L.length:=by omega
  have OL3:=OL.fr f3 λb hb _ hd=>by omega
  have OO3:=OO.fr f3 λb hb _ hd=>by omega
  have z3:=f3.size
  refine rix OL3.sl (x:=L[p]) (by simp) λb1 o1 A1=>rload1 (A1.cell0 rfl) (rbs1 L[p] rfl rfl (by decide) λb4 u4 n4 _ S4=>?_)
  have z4:=Le.size (a:=u3) (b:=u4)
  refine rappD ⟨rfl,rfl⟩ (OO3.up (w':=u4)) S4 (by simp) (by omega) (by simp;omega) λv5 u5 O5 f5 hv5=>?_
  have hgl:g<u4.heap.size:=by
   have q_:=(OL3.up (w':=u4)).lt hLne
   obtain⟨g',h1,_,h2⟩:=q_
   cases h1;exact h2
  have hne5:∀b,Value.blk v5=some b->b≠g:=λb hb=>by
   rcases hv5 with h|h
   ·rw [h] at hb;exact hne b hb
   ·rw [h] at hb;cases hb;omega
  have OL5:=(OL3.up (w':=u4)).fr f5 λb _ hb hd=>by
   have h1:=hd.2.1
   cases hb
   exact hne _ h1 rfl
  have S5:=(S3.up (w':=u4)).fr f5 (λhd=>by have:=hd.1;omega) (λhd=>by have:=hd.1;omega) (λi hd=>by have:=hd.1;omega)
  refine drawR TBok mixed (λi=>w.heap.size<=i) [0,1,2,3,4,5,6,7] (by kernel_rfl) λu6 e6 _=>?_
  have OL6:=OL5.up (w':=u6)
  have O6:=O5.up (w':=u6)
  have S6:=S5.up (w':=u6)
  refine tslO (some p) none OL6 (by simp;omega) (by simp) λa7 c7 h7=>?_
  refine rarE (y:=((p+1:Nat):Int)) (by omega) (by omega) (tsl (some (p+1)) none OL6.sl (by simp;omega) (by simp) λa8 c8 S8=>?_)
  have hd8:((L.drop ((some (p+1)).getD 0)).take ((none:Option Nat).getD L.length - (some (p+1)).getD 0))=L.drop (p+1):=by
   simp only [Option.getD_some,Option.getD_none]
   exact List.take_of_length_le (by simp)
  rw [hd8] at S8
  simp only [Option.getD_some,Option.getD_none] at S8 h7
  refine rcp' rfl p OL6 S8 h7 (show p+(L.length - p)<=L.length by omega) (show (L.drop (p+1)).length<=L.length - p by rw [List.length_drop];omega) λu7 O7 f7 z7=>⟨f7.mono λi _ hd=>hd.1,?_⟩
  have e7:L.take p++L.drop (p+1)++L.drop (p+(L.drop (p+1)).length)=L.eraseIdx p++L.drop (L.length - 1):=by
   rw [List.eraseIdx_eq_take_drop_succ,List.length_drop,show p+(L.length - (p+1))=L.length - 1 by omega]
  rw [e7] at O7
  have hel:(L.eraseIdx p).length=L.length - 1:=by rw [List.length_eraseIdx,if_pos hpL]
  have hcut:=O7.cut (m:=L.length - 1) (by omega) (by intro h;have:=congrArg List.length h;simp at this;omega)
  obtain⟨Oc,_⟩:=hcut
  rw [List.take_append_of_le_length (by omega),List.take_of_length_le (by omega)] at Oc
  refine rarE (y:=((L.length - 1:Nat):Int)) (by omega) (by omega) (rslP (m:=L.length - 1) (by omega) ?_)
  have O7':=O6.fr f7 λb _ hb hd=>by
   have h1:=hd.2.1
   cases h1
   exact hne5 _ hb rfl
  have z6:=Le.size (a:=u5) (b:=u6)
  have hz5:=f5.size
  have S7':=S6.fr f7 (λhd=>by have:=hd.1;omega) (λhd=>by have:=hd.1;omega) (λi hd=>by have:=hd.1;omega)
  have F7:Fr (λi=>i=bi) w u7:=by
   have a1:Fr (λi=>i=bi) w u4:=(Fu.trans f3).trans (Fr.fr n4.e)
   have a2:Fr (λi=>i=bi) w u5:=Fr.st' a1 f5 λi hd=>hd.1
   exact Fr.st' (a2.trans (Fr.fr (Le.e (a:=u5) (b:=u6)))) f7 λi hd=>hd.1
  have hpm:((out++[L[p]])++L.eraseIdx p).Perm l:=by
   refine List.Perm.trans ?_ hp
   rw [List.append_assoc]
   refine List.Perm.append_left out ?_
   rw [List.eraseIdx_eq_take_drop_succ]
   have h2:L=L.take p++L[p]::L.drop (p+1):=by rw [List.getElem_cons_drop,List.take_append_drop]
   exact((List.perm_middle (a:=L[p]) (l₁:=L.take p) (l₂:=L.drop (p+1))).symm).trans (List.Perm.of_eq h2.symm)
  have hcl:(-1:Int)+(out++[L[p]]).length = -1+out.length+1:=by simp;omega
  have fin:OrdII w.heap.size w0 u7 bi bp a c ps g l.length l (.slice (some ⟨g,0,none⟩) (L.length - 1) l.length) v5 (L.length - 1):=⟨L.eraseIdx p,out++[L[p]],by rw [hel],hel,by rw [hel];exact Oc,O7',hpm,hne5,by rw [hcl];exact S7'⟩
  exact⟨⟨⟨_,fin⟩,F7⟩,by show L.length - 1<L.length;omega⟩
 ·have hL0:L=[]:=List.eq_nil_of_length_eq_zero (by omega)
  subst hL0
  rw [List.append_nil] at hp
  exact⟨⟨out,hp,OO⟩,Fu⟩
structure OrdIM (B:Nat) (w0 u:World) (bi bp:Nat) (a:Option Addr) (c:Nat) (ps:List Int) (g cc:Nat) (l:List StD) (vl vo:Value) (n:Nat):Prop where
 ex:∃(L out:List StD),vl=.slice (some ⟨g,0,none⟩) L.length cc/\L.length=n/\Own B E.qb u (.slice (some ⟨g,0,none⟩) L.length cc) L/\Own B E.qb u vo out/\(out++L).Perm l/\(∀b,Value.blk vo=some b->b≠g)/\PickS w0 u bi bp a c ps (-1+out.length)
theorem zEi{al:Option Addr}{nl cl:Nat}{l:List StD}{bi bp:Nat}{c:Nat}{w0:World}(hl:SlF w0 (.slice al nl cl) l)(hn:l.length<=100000)(S:PickS w0 w bi bp a c ps (-1)):
  Sp PP F.pm #[.slice al nl cl,pickV bi bp] w λv w'=>(∃l',l'.Perm l/\Own w.heap.size E.qb w' v l')/\Fr (λi=>i=bi) w w':=by
 have q_:=hl.len
 obtain rfl:=q_
 have hlo:=S.lo
 have hbi:=S.i.lt
 have hbp:=S.p.lt
 refine en TBok rfl ?_
 refine rmk (default:StD) rfl rfl (by omega) λg w1 O1 s1 hg1=>?_
 have S1:=S.up (w':=w1)
 refine rcp (u:=w) (lo:=0) rfl O1 (hl.ext S1.ext) (.inr ⟨g,rfl,by simp⟩) (by simp) (by simp) λw2 O2 f2 s2 _=>?_
 have e2:(List.replicate l.length (default:StD)).take 0++l++(List.replicate l.length (default:StD)).drop (0+l.length)=l:=by simp
 rw [e2] at O2
 have S2:PickS w0 w2 bi bp a c ps (-1):=S1.fr f2 (λhd=>by have:=hd.1;omega) (λhd=>by have:=hd.1;omega) (λi hd=>by have:=hd.1;omega)
 have F2:Fr (λi=>i=bi) w w2:=Fr.fr (Fr.st s1.e f2 λi hd=>hd.1)
 clear O1 S1
 refine loop2 TBok 14 [7] 5 6 (λvl vo u=>(∃n,OrdIM w.heap.size w0 u bi bp a c ps g l.length l vl vo n)/\Fr (λi=>i=bi) w u) (λvl _ _=>match vl with | .slice _ n _=>n|_=>0) rfl ⟨⟨_,⟨l,[],rfl,rfl,O2,Own.nil _ _ _,.refl _,(λb hb=>nomatch hb),by simpa using S2⟩⟩,F2⟩ ?_
 rintro vl vo G u ⟨⟨n,⟨L,out,rfl,hLn,OL,OO,hp,hne,Su⟩⟩,Fu⟩
 have hlen:=hp.length_eq
 rw [List.length_append] at hlen
 have hzu:=Fu.size
 refine ite (λhgt=>?_) (λhle=>?_)
 ·have hL0:0<L.length:=by omega
  have hLne:L≠[]:=by intro h;rw [h] at hL0;simp at hL0
  refine rcall (zFg (n:=(L.length:Int)) (by omega) (by omega) Su) ?_
  rintro _ u3 ⟨⟨k,rfl,hk0,hk1⟩,S3,f3⟩
  have q_:∃p:Nat,k=(p:Int):=⟨k.toNat,by omega⟩
  obtain⟨p,rfl⟩:=q_
  have hpL:p<L.length:=by omega
  have OL3:=OL.fr f3 λb hb _ hd=>by omega
  have OO3:=OO.fr f3 λb hb _ hd=>by omega
  have z3:=f3.size
  refine rix OL3.sl (x:=L[p]) (by simp) λb1 o1 A1=>rloadA A1 rfl (rbs1 L[p] rfl rfl (by decide) λb4 u4 n4 _ S4=>?_)
  have z4:=Le.size (a:=u3) (b:=u4)
  refine rappD ⟨rfl,rfl⟩ (OO3.up (w':=u4)) S4 (by simp) (by omega) (by simp;omega) λv5 u5 O5 f5 hv5=>?_
  have hgl:g<u4.heap.size:=by
   have q_:=(OL3.up (w':=u4)).lt hLne
   obtain⟨g',h1,_,h2⟩:=q_
   cases h1;exact h2
  have hne5:∀b,Value.blk v5=some b->b≠g:=λb hb=>by
   rcases hv5 with h|h
   ·rw [h] at hb;exact hne b hb
   ·rw [h] at hb;cases hb;omega
  have OL5:=(OL3.up (w':=u4)).fr f5 λb _ hb hd=>by
   have h1:=hd.2.1
   cases hb
   exact hne _ h1 rfl
  have S5:=(S3.up (w':=u4)).fr f5 (λhd=>by have:=hd.1;omega) (λhd=>by have:=hd.1;omega) (λi hd=>by have:=hd.1;omega)
  refine drawR TBok mixed (λi=>w.heap.size<=i) [0,1,2,3,4,5,6,7] (by kernel_rfl) λu6 e6 _=>?_
  have OL6:=OL5.up (w':=u6)
  have O6:=O5.up (w':=u6)
  have S6:=S5.up (w':=u6)
  refine tslO (some p) none OL6 (by simp;omega) (by simp) λa7 c7 h7=>?_
  refine rarE (y:=((p+1:Nat):Int)) (by omega) (by omega) (tsl (some (p+1)) none OL6.sl (by simp;omega) (by simp) λa8 c8 S8=>?_)
  have hd8:((L.drop ((some (p+1)).getD 0)).take ((none:Option Nat).getD L.length - (some (p+1)).getD 0))=L.drop (p+1):=by
   simp only [Option.getD_some,Option.getD_none]
   exact List.take_of_length_le (by simp)
  rw [hd8] at S8
  simp only [Option.getD_some,Option.getD_none] at S8 h7
  refine rcp' rfl p OL6 S8 h7 (show p+(L.length - p)<=L.length by omega) (show (L.drop (p+1)).length<=L.length - p by rw [List.length_drop];omega) λu7 O7 f7 z7=>⟨f7.mono λi _ hd=>hd.1,?_⟩
  have e7:L.take p++L.drop (p+1)++L.drop (p+(L.drop (p+1)).length)=L.eraseIdx p++L.drop (L.length - 1):=by
   rw [List.eraseIdx_eq_take_drop_succ,List.length_drop,show p+(L.length - (p+1))=L.length - 1 by omega]
  rw [e7] at O7
  have hel:(L.eraseIdx p).length=L.length - 1:=by rw [List.length_eraseIdx,if_pos hpL]
  have hcut:=O7.cut (m:=L.length - 1) (by omega) (by intro h;have:=congrArg List.length h;simp at this;omega)
  obtain⟨Oc,_⟩:=hcut
  rw [List.take_append_of_le_length (by omega),List.take_of_length_le (by omega)] at Oc
  refine rarE (y:=((L.length - 1:Nat):Int)) (by omega) (by omega) (rslP (m:=L.length - 1) (by omega) ?_)
  have O7':=O6.fr f7 λb _ hb hd=>by
   have h1:=hd.2.1
   cases h1
   exact hne5 _ hb rfl
  have z6:=Le.size (a:=u5) (b:=u6)
  have hz5:=f5.size
  have S7':=S6.fr f7 (λhd=>by have:=hd.1;omega) (λhd=>by have:=hd.1;omega) (λi hd=>by have:=hd.1;omega)
  have F7:Fr (λi=>i=bi) w u7:=by
   have a1:Fr (λi=>i=bi) w u4:=(Fu.trans f3).trans (Fr.fr n4.e)
   have a2:Fr (λi=>i=bi) w u5:=Fr.st' a1 f5 λi hd=>hd.1
   exact Fr.st' (a2.trans (Fr.fr (Le.e (a:=u5) (b:=u6)))) f7 λi hd=>hd.1
  have hpm:((out++[L[p]])++L.eraseIdx p).Perm l:=by
   refine List.Perm.trans ?_ hp
   rw [List.append_assoc]
   refine List.Perm.append_left out ?_
   rw [List.eraseIdx_eq_take_drop_succ]
   have h2:L=L.take p++L[p]::L.drop (p+1):=by rw [List.getElem_cons_drop,List.take_append_drop]
   exact((List.perm_middle (a:=L[p]) (l₁:=L.take p) (l₂:=L.drop (p+1))).symm).trans (List.Perm.of_eq h2.symm)
  have hcl:(-1:Int)+(out++[L[p]]).length = -1+out.length+1:=by simp;omega
  have fin:OrdIM w.heap.size w0 u7 bi bp a c ps g l.length l (.slice (some ⟨g,0,none⟩) (L.length - 1) l.length) v5 (L.length - 1):=⟨L.eraseIdx p,out++[L[p]],by rw [hel],hel,by rw [hel];exact Oc,O7',hpm,hne5,by rw [hcl];exact S7'⟩
  exact⟨⟨⟨_,fin⟩,F7⟩,by show L.length - 1<L.length;omega⟩
 ·have hL0:L=[]:=List.eq_nil_of_length_eq_zero (by omega)
  subst hL0
  rw [List.append_nil] at hp
  exact⟨⟨out,hp,OO⟩,Fu⟩
theorem zIB{al:Option Addr}{nl cl c:Nat}{l:List StD}(hl:SlF w (.slice al nl cl) l)(hn:l.length<=100000)(hp:SlF w (.slice a n c) ps):
  Sp PP F.qab #[.slice al nl cl,.slice a n c] w λv w'=>(∃l',l'.Perm l/\Own w.heap.size E.qb w' v l')/\Stp w w':=by
 refine en TBok rfl ?_
 refine rcall (zG5 hp) ?_
 rintro _ w1 ⟨⟨bi,bp,rfl,S,hbp,hbp2⟩,e1⟩
 refine rcall (zEi hl hn S) ?_
 rintro v w2 ⟨⟨l',hp',O⟩,f2⟩
 exact⟨⟨l',hp',O.mono e1.e.size⟩,⟨Fr.st e1.e f2 λi hi=>by have:=S.lo;omega⟩⟩
def upTo (n:Nat):List Int:=(List.range n).map λi:Nat=>(i:Int)
theorem zJY(n:Nat):(upTo n).length=n:=by simp [upTo]
theorem zIC{c:Nat}(hn:n<=1000)(hp:SlF w (.slice a m c) ps):
  Sp PP F.c8 #[.int .i64 (n:Int),.slice a m c] w λv w'=>(∃l' v',v=.tuple #[v',.int .i64 0]/\l'.Perm (upTo n)/\Own w.heap.size E.qa w' v' l')/\Stp w w':=by
 refine en TBok rfl ?_
 refine iF (by omega) (iF (by omega) (rmk (default:Int) rfl rfl (by omega) λg w1 O1 s1 hg1=>cnt TBok 18 [7] 18 n (λk u=>Own w.heap.size E.qa u (.slice (some ⟨g,0,none⟩) n n) (upTo k++List.replicate (n - k) (default:Int))/\Stp w u) rfl rfl ⟨by simpa [upTo] using O1,stp⟩ ?_))
 rintro k G u hk ⟨O,e⟩
 have hul:=zJY k
 refine ite (λhlt=>?_) (λhge=>?_)
 ·have hkn:k<n:=by omega
  have hge:(upTo k++List.replicate (n - k) (default:Int))[k]? = some default:=by
   rw [List.getElem?_append_right (by omega),hul,Nat.sub_self,List.getElem?_replicate,if_pos (by omega)]
  refine rixO rfl O hge λg2 hg2 _ A=>rstO (u:=w) rfl (k:Int) O hg2 (by simp;omega) rfl λu3 O3 f3 s3 _=>rA ⟨rfl,hkn,?_,stp⟩
  have e3:(upTo k++List.replicate (n - k) (default:Int)).set k (k:Int)=upTo (k+1)++List.replicate (n - (k+1)) (default:Int):=by
   rw [List.set_append_right _ _ (by omega),hul,Nat.sub_self]
   have h4:n - k=(n - (k+1))+1:=by omega
   rw [h4,List.replicate_succ,List.set_cons_zero]
   unfold upTo
   rw [List.range_succ,List.map_append,List.append_assoc];rfl
  rw [<-e3];exact O3
 ·have q_:k=n:=by omega
  obtain rfl:=q_
  rw [Nat.sub_self,List.replicate_zero,List.append_nil] at O
  refine rcall (zG5 (hp.up (w':=u))) ?_
  rintro _ w2 ⟨⟨bi,bp,rfl,S,hbp,hbp2⟩,e2⟩
  refine rcall (zEH O.sl (by omega) S) ?_
  rintro v w3 ⟨⟨l',hp',O'⟩,f3⟩
  have z2:=e2.e.size
  have zu:=Le.size (a:=w) (b:=u)
  exact⟨⟨l',v,rfl,hp',O'.mono (by omega)⟩,⟨Fr.st (Le.e (a:=w) (b:=w2)) f3 λi hi=>by have:=S.lo;omega⟩⟩
theorem zCl{c:Nat}{l:List StD}{g:FuncId}{first cap:List Value}{p:StD->Prop}(h:SlF w (.slice a n c) l)(hn:l.length<=1000000)
  (hf:∀r u,r∈l->Ext w u->Sp PP g (first++[agg r]++cap).toArray u λv u'=>Tells (p r) v/\Stp u u'):
  Sp PP F.zc #[.slice a n c,.func (.func g) first.toArray cap.toArray] w λv w'=>((∃(k:Nat) (h:k<l.length),v=.int .i64 (k:Int)/\p l[k]/\∀y∈l.take k,¬p y)\/(v=.int .i64 (-1)/\∀y∈l,¬p y))/\Stp w w':=by
 have q_:=h.len
 obtain rfl:=q_
 refine en TBok rfl ?_
 refine cnt TBok 9 [4,5] 8 l.length (λk u=>(∀y∈l.take k,¬p y)/\Stp w u) rfl rfl ⟨by simp,stp⟩ ?_
 rintro k g' u hk ⟨hall,e⟩
 refine ite (λhlt=>?_) (λhge=>?_)
 ·have hka:k<l.length:=by omega
  refine rix (h.up (w':=u)) (x:=l[k]) (by simp) λb1 o1 A1=>rloadA A1 rfl (rcall (hf l[k] u (List.getElem_mem _) e.e) ?_)
  rintro _ u1 ⟨⟨rfl,hy⟩|⟨rfl,hy⟩,e1⟩
  ·exact⟨.inl ⟨k,hka,rfl,hy,hall⟩,stp⟩
  ·refine rA ⟨rfl,hka,λt ht=>?_,stp⟩
   rw [zAa hka] at ht
   have q_:=List.mem_append.1 ht
   rcases q_ with ht|ht
   ·exact hall t ht
   ·rw [List.mem_singleton.1 ht];exact hy
 ·have q_:k=l.length:=by omega
  obtain rfl:=q_
  rw [List.take_of_length_le (Nat.le_refl _)] at hall
  exact⟨.inr ⟨rfl,hall⟩,stp⟩
theorem zBJ{c:Nat}{l:List StD}{g:FuncId}{first cap:List Value}{p:StD->Prop}(h:SlF w (.slice a n c) l)(hn:l.length<=1000000)
  (hf:∀r u,r∈l->Ext w u->Sp PP g (first++[agg r]++cap).toArray u λv u'=>Tells (p r) v/\Stp u u'):
  Sp PP F.y1 #[.slice a n c,.func (.func g) first.toArray cap.toArray] w λv w'=>Tells (∃y∈l,p y) v/\Stp w w':=by
 refine en TBok rfl ?_
 refine rcall (zCl h hn hf) ?_
 rintro _ w1 ⟨⟨k,hk,rfl,hp,_⟩|⟨rfl,hp⟩,e1⟩
 ·refine ite (λ_=>⟨.t ⟨_,List.getElem_mem hk,hp⟩,e1⟩) (λh2=>absurd h2 (by omega))
 ·refine ite (λh2=>absurd h2 (by omega)) (λ_=>⟨.f λ⟨y,hy,h3⟩=>hp y hy h3,e1⟩)
structure DelI (p:StD->Prop) [DecidablePred p] (l L:List StD) (i j:Nat):Prop where
 len:L.length=l.length
 ij:i<=j
 jl:j<=l.length
 head:L.take i=(l.take j).filter λx=>!decide (p x)
 tail:L.drop j=l.drop j
theorem DelI.skip{p:StD->Prop}[DecidablePred p]{l L:List StD}(h:DelI p l L i j)(hj:j<l.length)(hp:p l[j]):DelI p l L i (j+1):=by
 refine⟨h.len,Nat.le_succ_of_le h.ij,hj,?_,?_⟩
 ·rw [zAa hj,List.filter_append,h.head];simp [hp]
 ·have:=congrArg (List.drop 1) h.tail
  simpa [List.drop_drop,Nat.add_comm] using this
theorem DelI.get{p:StD->Prop}[DecidablePred p]{l L:List StD}(h:DelI p l L i j)(hj:j<l.length):L[j]? = some l[j]:=by
 have:=congrArg (λx=>x[0]?) h.tail
 simpa [List.getElem?_drop,hj] using this
theorem DelI.put{p:StD->Prop}[DecidablePred p]{l L:List StD}(h:DelI p l L i j)(hj:j<l.length)(hp:¬p l[j]):DelI p l (L.set i l[j]) (i+1) (j+1):=by
 have hi:=h.ij
 have hL:=h.len
 refine⟨by rw [List.length_set,h.len],by omega,hj,?_,?_⟩
 ·rw [zAa hj,List.filter_append,<-h.head]
  have e:([l[j]].filter λx=>!decide (p x))=[l[j]]:=by simp [hp]
  rw [e]
  rw [List.take_add_one,List.take_set_of_le (Nat.le_refl _),List.getElem?_set_self (by omega)];rfl
 ·rw [List.drop_set_of_lt (by omega)]
  have:=congrArg (List.drop 1) h.tail
  simpa [List.drop_drop,Nat.add_comm] using this
theorem zEL{c:Nat}{l:List StD}{g:FuncId}{first cap:List Value}{p:StD->Prop}[DecidablePred p]{St:World->Prop}(h:Own B E.qb w (.slice a n c) l)(hn:l.length<=1000000)(hB:B<=w.heap.size)
  (h0:St w)(hst:∀u u',St u->Fr (ownD B (.slice a n c)) u u'->St u')(hf:∀r u,r∈l->St u->Sp PP g (first++[agg r]++cap).toArray u λv u'=>Tells (p r) v/\Stp u u'):
  Sp PP F.za #[.slice a n c,.func (.func g) first.toArray cap.toArray] w λv w'=>Own B E.qb w' v (l.filter λx=>!decide (p x))/\Fr (ownD B (.slice a n c)) w w':=by
 have q_:=h.sl.len
 obtain rfl:=q_
 refine en TBok rfl ?_
 refine rcall (zCl h.sl hn λr u hr e=>hf r u hr (hst _ _ h0 e.fr)) ?_
 rintro _ w1 ⟨⟨k,hk,rfl,hp,hnone⟩|⟨rfl,hp⟩,e1⟩
 case' inr =>
  refine iT rfl ?_
  have e:(l.filter λx=>!decide (p x))=l:=List.filter_eq_self.2 λx hx=>by simp [hp x hx]
  rw [e]
  exact⟨h.up,Fr.fr e1.e⟩
 refine iF (by omega) (rarE (y:=((k+1:Nat):Int)) (by omega) (by omega) ?_)
 have hlne:l≠[]:=by intro h;rw [h] at hk;simp at hk
 have q_:=h.blk hlne
 obtain⟨gg,cur,rfl,_⟩:=q_
 have I0:DelI p l l k (k+1):=(show DelI p l l k k from ⟨rfl,Nat.le_refl _,Nat.le_of_lt hk,(List.filter_eq_self.2 λx hx=>by simp [hnone x hx]).symm,rfl⟩).skip hk hp
 refine loop2 TBok 16 [7] 5 6 (λv5 v6 u=>∃(i j:Nat) (L:List StD),v5=.int .i64 (i:Int)/\v6=.int .i64 (j:Int)/\DelI p l L i j/\Own B E.qb u (.slice (some ⟨gg,0,none⟩) l.length c) L/\Fr (ownD B (.slice (some ⟨gg,0,none⟩) l.length c)) w u) (λ_ v6 _=>l.length+1 - (Go.RowKit.intOf v6).toNat) rfl
  ⟨k,k+1,l,rfl,rfl,I0,h.up,Fr.fr e1.e⟩ ?_
 rintro v5 v6 G u ⟨i,j,L,rfl,rfl,I,O,fu⟩
 have hI1:=I.ij;have hI2:=I.jl;have hI3:=I.len
 refine ite (λhlt=>?_) (λhge=>?_)
 ·have hj:j<l.length:=by omega
  refine rixO rfl O (I.get hj) λg2 hg2 _ A2=>rloadA A2 rfl (ral λb3 u3 n3 z3=>?_)
  have hb3:=n3.b
  have hBu:B<=u.heap.size:=Nat.le_trans hB fu.size
  refine rsto (B:=z3) (vs:=enc l[j]) rfl rfl rfl (Enc.one _) λu4 X4 f4 _=>?_
  have X4:Bk u4 b3 (enc l[j]) E.qb:=X4
  have s4:Stp u u4:=⟨Fr.st (Le.e (a:=u) (b:=u3)) f4 λi hi=>by omega⟩
  refine rldG (ds:=enc l[j]) (B:=X4) rfl rfl ?_
  have fu4:=fu.trans (Fr.fr s4.e)
  refine rcall (hf l[j] u4 (List.getElem_mem hj) (hst _ _ h0 fu4)) ?_
  rintro _ u5 ⟨⟨rfl,hy⟩|⟨rfl,hy⟩,e5⟩
  ·refine rarE (y:=((j+1:Nat):Int)) (by omega) (by omega) ?_
   exact⟨⟨i,j+1,L,rfl,rfl,I.skip hj hy,O.up (w':=u5),fu4.trans (Fr.fr e5.e)⟩,by show l.length+1 - ((((j+1:Nat):Int))).toNat<l.length+1 - ((j:Int)).toNat;omega⟩
  ·refine rldG (ds:=enc l[j]) (B:=X4) rfl rfl ?_
   have hiL:i<L.length:=by omega
   refine rixO rfl (O.up (w':=u5)) (x:=L[i]) (by simp) λg6 hg6 _ A6=>rstO' rfl l[j] (O.up (w':=u5)) hg6 hiL rfl λu7 O7 f7 _=>rarE (y:=((i+1:Nat):Int)) (by omega) (by omega) (rarE (y:=((j+1:Nat):Int)) (by omega) (by omega) ?_)
   exact⟨⟨i+1,j+1,_,rfl,rfl,I.put hj hy,O7,(fu4.trans (Fr.fr e5.e)).trans f7⟩,by show l.length+1 - ((((j+1:Nat):Int))).toNat<l.length+1 - ((j:Int)).toNat;omega⟩
 ·have q_:j=l.length:=by omega
  obtain rfl:=q_
  have hLne:L≠[]:=by intro h;rw [h] at hI3;simp at hI3;exact hlne (List.eq_nil_of_length_eq_zero hI3.symm)
  refine rslO (some i) none O (by simp;omega) (by simp) λa7 c7 h7=>?_
  simp only [Option.getD_some,Option.getD_none] at h7
  refine rnclr rfl rfl (rclr (zSt:StD) rfl rfl i O h7 (show i+(l.length - i)<=L.length by omega) λu8 O8 f8=>?_)
  have hcut:=O8.cut (m:=i) (by omega) (by intro h;have:=congrArg List.length h;rw [List.length_append,List.length_append,List.length_take,List.length_replicate,List.length_drop,List.length_nil] at this;omega)
  obtain⟨Oc,_⟩:=hcut
  have hih:=I.head
  rw [List.take_of_length_le (Nat.le_refl l.length)] at hih
  rw [List.append_assoc,List.take_append_of_le_length (by simp;omega),List.take_take,Nat.min_self,hih] at Oc
  have hcc:i<=c:=by obtain⟨_,_,hv,hc,_⟩:=O.sl;injection hv with h1 h2 h3;omega
  refine rslP hcc ?_
  exact⟨Oc,fu.trans f8⟩
theorem zJA(x:StD):∀L:List StD,(putC x L).length<=L.length+1
 |[]=>by simp [putC]
 |y::r=>by
  have:=zJA x r
  unfold putC
  split
  ·simp;omega
  ·split <;> simp
theorem zHE(l:List StD):(combL l).length<=l.length:=by
 have key:∀(m L:List StD),(m.foldl (λL x=>putC x L) L).length<=L.length+m.length:=by
  intro m
  induction m with
  |nil=>intro L;simp
  |cons x r ih =>
   intro L
   rw [List.foldl_cons,List.length_cons]
   have:=ih (putC x L)
   have:=zJA x L
   omega
 have:=key l []
 simpa [combL] using this
def KeyM (S:List StD) (m:List (KeyD×Value)):Prop:=∀k,getM m k=if keyIn S k then some (.bool true) else none
theorem KeyM.add{S:List StD}{m:List (KeyD×Value)}(h:KeyM S m)(x:StD):KeyM (S++[x]) (setM x.key (.bool true) m):=λk=>by
 rw [zDY,h k]
 by_cases e:k=x.key
 ·have:keyIn (S++[x]) k=true:=zC5.2 ⟨x,by simp,e.symm⟩
  rw [if_pos e,if_pos this]
 ·have:keyIn (S++[x]) k=keyIn S k:=by
   rw [Bool.eq_iff_iff,zC5,zC5]
   constructor
   ·rintro⟨y,hy,h2⟩
    have q_:=List.mem_append.1 hy
    rcases q_ with hy|hy
    ·exact⟨y,hy,h2⟩
    ·rw [List.mem_singleton.1 hy] at h2;exact absurd h2.symm e
   ·rintro⟨y,hy,h2⟩;exact⟨y,List.mem_append_left _ hy,h2⟩
  rw [if_neg e,this]
theorem zGk{x:StD}{S:List StD}{bt bm:Nat}{m:List (KeyD×Value)}(T:Bk w bt [.map (some bm)] E.q0)(M:MapL PP E.ql w bm m)(K:KeyM S m):
  Sp PP F.yv #[agg x,.pointer (some ⟨bt,0,none⟩)] w λv w'=>Tells (keyIn S x.key=true) v/\Stp w w':=by
 refine en TBok rfl ?_
 refine rbx λb w1 n1 B1=>rld (B:=T) rfl (rldG (ds:=enc x.key) (B:=B1) rfl rfl ?_)
 have hk:=K x.key
 by_cases h:keyIn S x.key=true
 ·rw [if_pos h] at hk
  refine rlookE (M.up (w':=w1)) x.key rfl (v:=.bool true) (by rw [hk];rfl) ?_
  exact⟨.t h,stp⟩
 ·rw [if_neg h] at hk
  refine rlookE (M.up (w':=w1)) x.key rfl (v:=.bool false) (by rw [hk];rfl) ?_
  exact⟨.f h,stp⟩
theorem zDw{c c2:Nat}{S M:List StD}(hs:SlF w (.slice a n c) S)(hm:SlF w (.slice a2 n2 c2) M)(hsn:S.length<=100000)(hmn:M.length<=1000000):
  Sp PP F.cq #[.slice a n c,.slice a2 n2 c2] w λv w'=>Own w.heap.size E.qb w' v (freshL S M)/\Stp w w':=by
 have q_:=hs.len
 obtain rfl:=q_
 have q_:=hm.len
 obtain rfl:=q_
 refine en TBok rfl ?_
 refine rmkN (kt:=E.ql) (κ:=KeyD) rfl λbm w1 n1 M1=>?_
 refine ral λbt w2 n2 Z2=>?_
 have hb1:=n1.b;have hs1:=n1.s;have hb2:=n2.b;have hs2:=n2.s
 refine rsto (B:=Z2) (vs:=[.map (some bm)]) rfl rfl rfl (by simp;rfl) λw3 T3 f3 _=>?_
 have T3:Bk w3 bt [.map (some bm)] E.q0:=T3
 have s3:Stp w w3:=⟨Fr.st (Le.e (a:=w) (b:=w2)) f3 λi hi=>by omega⟩
 have M3:MapL PP E.ql w3 bm ([]:List (KeyD×Value)):=(M1.up (w':=w2)).fr f3 (by omega)
 clear Z2 f3
 refine cnt TBok 11 [7] 11 S.length (λk u=>∃m,MapL PP E.ql u bm m/\KeyM (S.take k) m/\Bk u bt [.map (some bm)] E.q0/\Stp w u) rfl rfl ⟨[],M3,λk=>rfl,T3,s3⟩ ?_
 rintro k g u hk ⟨m,Mu,K,T,su⟩
 have hzu:=Mu.lt
 have hzt:=T.lt
 refine ite (λhlt=>?_) (λhge=>?_)
 ·have hka:k<S.length:=by omega
  refine rix (hs.up (w':=u)) (x:=S[k]) (by simp) λb4 o4 A4=>rloadA A4 rfl (ral λb5 u5 n5 z5=>?_)
  have hb5:=n5.b;have hs5:=n5.s
  refine rsto (B:=z5) (vs:=enc S[k]) rfl rfl rfl (Enc.one _) λu6 X6 f6 _=>?_
  have X6:Bk u6 b5 (enc S[k]) E.qh:=X6
  have s6:Stp u u6:=⟨Fr.st (Le.e (a:=u) (b:=u5)) f6 λi hi=>by omega⟩
  refine rld (B:=T) rfl (rldG (ds:=enc S[k].key) (B:=X6) rfl rfl (rupd (Mu.up (w':=u6)) S[k].key rfl λu7 M7 f7 _=>?_))
  have T7:=(T.mv (w:=u6)).fr f7 (by omega)
  exact rA ⟨rfl,hka,_,M7,by rw [zAa hka];exact K.add _,T7,⟨Fr.st (Le.e (a:=w) (b:=u6)) f7 λi hi=>by omega⟩⟩
 ·have q_:k=S.length:=by omega
  obtain rfl:=q_
  rw [List.take_length] at K
  refine rcall (zGO (hm.up (w':=u)) (by omega)) ?_
  rintro v u2 ⟨O2,e2⟩
  have hcl:(combL M).length<=M.length:=zHE M
  have q_:=O2.shape
  obtain⟨oa,oc,rfl⟩:=q_
  refine rcall (zEL (g:=F.yv) (first:=[]) (cap:=[.pointer (some ⟨bt,0,none⟩)]) (p:=λx=>keyIn S x.key=true) (St:=λu=>Bk u bt [.map (some bm)] E.q0/\MapL PP E.ql u bm m) O2 (by omega) e2.e.size ⟨T.mv (w:=u2),Mu.up⟩ (λx x' hx f=>⟨hx.1.fr f (λhd=>by have:=hd.1;omega),hx.2.fr f (λhd=>by have:=hd.1;omega)⟩) (λr x hr hx=>zGk hx.1 hx.2 K)) ?_
  rintro v u3 ⟨O3,f3⟩
  have e3:((combL M).filter λx=>!decide (keyIn S x.key=true))=freshL S M:=by
   unfold freshL
   congr 1;funext x;simp
  rw [e3] at O3
  have hzw:=Le.size (a:=w) (b:=u)
  exact⟨O3.mono hzw,⟨Fr.st (Le.e (a:=w) (b:=u2)) f3 λi hi=>by have:=hi.1;omega⟩⟩
end Go.W
namespace Go.Proofs
open Go.Shelf
def Tryz.cmpT_ren:Go.Shelf.Ren:=⟨fun|106=>160|213=>232|265=>284|n=>n,fun|9=>9|3=>3|n=>n,fun|n=>n⟩
theorem Tryz.cmpT:Go.Proofs.Lays.n106 Tryz.prog Tryz.cmpT_ren:={
 mixed:=by kernel_rfl
 f106:=W.ff Tryz.func160
 f213:=W.ff Tryz.func232
 f265:=W.ff Tryz.func284
 t3:=Tryz.underlying3
 a3:=Tryz.isAgg3
 z3:=Tryz.sizeOf3
 v3:=Tryz.zeroValue3
 t9:=Tryz.underlying9
 a9:=Tryz.isAgg9
 z9:=Tryz.sizeOf9
 v9:=Tryz.zeroValue9 }
end Go.Proofs
namespace Go.W
open Go Go.Proofs
open Enc (enc)
set_option maxRecDepth 10000
variable {B hi i j k m n n2:Nat} {D:Nat -> Prop} {P:Program} {a a2:Option Addr} {g:GrD} {ps:List Int} {q:QyD} {s:List UInt8} {u u' w w' w1 w2:World}
theorem zDR:∀(a b:List UInt8),Lib.compareBytes a b<0↔a<b
 |[],[]=>by simp [Lib.compareBytes]
 |[],_::_=>by simp [Lib.compareBytes]
 |_::_,[]=>by simp [Lib.compareBytes]
 |a::xs,b::ys=>by
  have ih:=zDR xs ys
  unfold Lib.compareBytes
  rw [List.cons_lt_cons_iff]
  split
  ·rename_i h;simp [h]
  ·rename_i h
   split
   ·rename_i h2
    have:a≠b:=by rintro rfl;exact absurd h2 h
    simp [h,this]
   ·rename_i h2
    have:a=b:=by
     rw [UInt8.lt_iff_toNat_lt] at h h2
     exact UInt8.toNat.inj (by omega)
    simp [this,ih]
theorem zCf{a b:ByteArray}:Sp PP F.qd #[.string a,.string b] w λv w'=>v=.int .i64 (Lib.compareBytes a.data.toList b.data.toList)/\w'=w:=
 ⟨⟨_,Tryz.func160,rfl,rfl⟩,(Any.strings_Compare Tryz.cmpT a b w).mono λe w' h=>by obtain⟨rfl,rfl⟩:=h;exact⟨rfl,rfl⟩⟩
instance:Enc EdN:=⟨2,λx=>[.int .i64 (x.f:Int),.int .i64 (x.t:Int)],λ_=>rfl,by intro x u hu;simp at hu;rcases hu with rfl|rfl <;> rfl,by decide⟩
instance:Inhabited EdN:=⟨⟨0,0⟩⟩
instance:EqT PP E.qr EdN:=⟨by kernel_rfl,λd x y w=>⟨_,by
  rw [zG0 (l:=[(E.qa,0),(E.qa,1)]) (by kernel_rfl) (d+7)]
  exact zDl rfl rfl (zDl rfl rfl (zKK _ _ _ _)),by cases x;cases y;simp;omega⟩⟩
structure RGr where
 n:Int
 es:SV
 ws:SV
instance:Enc RGr:=⟨3,λx=>[.int .i64 x.n,.slice x.es.a x.es.n x.es.c,.slice x.ws.a x.ws.n x.ws.c],λ_=>rfl,by intro x u hu;simp at hu;rcases hu with rfl|rfl|rfl <;> rfl,by decide⟩
def RowsV {α:Type} [Enc α] (w:World) (vs:List SV) (ls:List (List α)):Prop:=vs.length=ls.length/\∀i (h:i<vs.length) (h':i<ls.length),SlF w vs[i].v ls[i]
theorem RowsV.up{α:Type}[Enc α][Le w w']{vs:List SV}{ls:List (List α)}(h:RowsV w vs ls):RowsV w' vs ls:=⟨h.1,λi h1 h2=>(h.2 i h1 h2).up⟩
structure GrV (w:World) (x:RGr) (g:GrD) (vs:List SV):Prop where
 n:x.n=(g.n:Int)
 es:SlF w (.slice x.es.a x.es.n x.es.c) g.es
 ws:SlF w (.slice x.ws.a x.ws.n x.ws.c) vs
 rows:RowsV w vs g.ws
 small:g.es.length<=1000000/\vs.length<=1000000/\∀l∈g.ws,l.length<=1000000
 words:∀l∈g.ws,∀s∈l,s.size<=1000000
theorem GrV.up[Le w w']{x:RGr}{vs:List SV}(h:GrV w x g vs):GrV w' x g vs:=⟨h.n,h.es.up,h.ws.up,h.rows.up,h.small,h.words⟩
theorem zEq{s:ByteArray}(hs:s.size<=1000000):Sp PP F.c0 #[.string s] w λv w'=>Tells (WordB s) v/\Stp w w':=by
 have hl:s.data.toList.length=s.size:=Array.length_toList
 refine en TBok rfl ?_
 refine cnt TBok 7 [2,3] 6 s.size (λk u=>(∀c∈s.data.toList.take k,97<=c.toNat/\c.toNat<=122)/\Stp w u) rfl rfl ⟨by simp,stp⟩ ?_
 rintro k g u hk ⟨hall,e⟩
 refine ite (λhlt=>?_) (λhge=>?_)
 ·have hka:k<s.data.toList.length:=by omega
  have no:¬(97<=s.data.toList[k].toNat/\s.data.toList[k].toNat<=122)->¬WordB s:=λh hw=>h (hw.1 _ (List.getElem_mem _))
  refine rsidx (c:=s.data.toList[k]) (List.getElem?_eq_getElem hka) (ite (λh1=>⟨.f (no (by omega)),stp⟩) (λh1=>?_))
  refine rsidx (c:=s.data.toList[k]) (List.getElem?_eq_getElem hka) (ite (λh2=>⟨.f (no (by omega)),stp⟩) (λh2=>?_))
  refine rA ⟨rfl,by omega,λt ht=>?_,stp⟩
  rw [zAa hka] at ht
  have q_:=List.mem_append.1 ht
  rcases q_ with ht|ht
  ·exact hall t ht
  ·rw [List.mem_singleton.1 ht];omega
 ·have q_:k=s.size:=by omega
  obtain rfl:=q_
  rw [List.take_of_length_le (by omega)] at hall
  refine rsne (λhne=>?_) (λheq=>⟨.f (λh=>?_),stp⟩)
  ·have hp:s.size≠0:=λh=>hne (by
    have:s.data.toList=[]:=List.eq_nil_of_length_eq_zero (by omega)
    have h2:s.data=#[]:=by simpa using this
    exact congrArg ByteArray.mk h2)
   refine ite (λh1=>⟨.t ⟨hall,by omega,by omega⟩,stp⟩) (λh1=>⟨.f (λh=>by have:=h.2.2;omega),stp⟩)
  ·have:=h.2.1
   rw [heq] at this
   exact absurd this (by decide)
theorem zF3{s:ByteArray}(hs:s.size<=1000000):Sp PP F.dy #[.string s] w λv w'=>Tells (¬WordB s) v/\Stp w w':=by
 refine en TBok rfl ?_
 refine rcall (zEq hs) ?_
 rintro _ u1 ⟨⟨rfl,h⟩|⟨rfl,h⟩,e1⟩
 ·exact⟨.f (λh2=>h2 h),stp⟩
 ·exact⟨.t h,stp⟩
theorem zEB{c:Nat}{l:List ByteArray}{g:FuncId}{first cap:List Value}{p:ByteArray->Prop}(h:SlF w (.slice a n c) l)(hn:l.length<=1000000)
  (hf:∀r u,r∈l->Ext w u->Sp PP g (first++[Value.string r]++cap).toArray u λv u'=>Tells (p r) v/\Stp u u'):
  Sp PP F.y6 #[.slice a n c,.func (.func g) first.toArray cap.toArray] w λv w'=>((∃k:Nat,v=.int .i64 (k:Int)/\∃y∈l,p y)\/(v=.int .i64 (-1)/\∀y∈l,¬p y))/\Stp w w':=by
 obtain rfl:=h.len
 refine en TBok rfl ?_
 refine cnt TBok 9 [4,5] 8 l.length (λk u=>(∀y∈l.take k,¬p y)/\Stp w u) rfl rfl ⟨by simp,stp⟩ ?_
 rintro k g' u hk ⟨hall,e⟩
 refine ite (λhlt=>?_) (λhge=>?_)
 ·have hka:k<l.length:=by omega
  refine rix (h.up (w':=u)) (x:=l[k]) (by simp) λb1 o1 A1=>rload1 (A1.cell0 rfl) (rcall (hf l[k] u (List.getElem_mem _) e.e) ?_)
  rintro _ u1 ⟨⟨rfl,hy⟩|⟨rfl,hy⟩,e1⟩
  ·exact⟨.inl ⟨k,rfl,l[k],List.getElem_mem _,hy⟩,stp⟩
  ·refine rA ⟨rfl,hka,λt ht=>?_,stp⟩
   rw [zAa hka] at ht
   rcases List.mem_append.1 ht with ht|ht
   ·exact hall t ht
   ·rw [List.mem_singleton.1 ht];exact hy
 ·obtain rfl:k=l.length:=by omega
  rw [List.take_of_length_le (Nat.le_refl _)] at hall
  exact⟨.inr ⟨rfl,hall⟩,stp⟩
theorem zBq{c:Nat}{l:List ByteArray}{g:FuncId}{first cap:List Value}{p:ByteArray->Prop}(h:SlF w (.slice a n c) l)(hn:l.length<=1000000)
  (hf:∀r u,r∈l->Ext w u->Sp PP g (first++[Value.string r]++cap).toArray u λv u'=>Tells (p r) v/\Stp u u'):
  Sp PP F.yt #[.slice a n c,.func (.func g) first.toArray cap.toArray] w λv w'=>Tells (∃y∈l,p y) v/\Stp w w':=by
 refine en TBok rfl ?_
 refine rcall (zEB h hn hf) ?_
 rintro _ u1 ⟨⟨k,rfl,hy⟩|⟨rfl,hy⟩,e1⟩
 ·refine ite (λh1=>⟨.t hy,stp⟩) (λh1=>absurd h1 (by omega))
 ·refine ite (λh1=>absurd h1 (by omega)) (λh1=>⟨.f (λ⟨y,h2,h3⟩=>hy y h2 h3),stp⟩)
theorem belowN{p:Nat->Prop}(h:∀j,j<k->¬p j)(hk:¬p k):∀j,j<k+1->¬p j:=λj hj=>by
 have q_:=Nat.lt_or_ge j k
 rcases q_ with h1|h1
 ·exact h j h1
 ·have q_:j=k:=by omega
  obtain rfl:=q_
  exact hk
theorem zCV{c:Nat}{l:List SV}{g:FuncId}{p:Nat->Prop}(h:SlF w (.slice a n c) l)(hn:l.length<=1000000)
  (hf:∀i (hi:i<l.length) u,Ext w u->Sp PP g #[l[i].v] u λv u'=>Tells (p i) v/\Stp u u'):
  Sp PP F.yq #[.slice a n c,.func (.func g) #[] #[]] w λv w'=>Tells (∃i,i<l.length/\p i) v/\Stp w w':=by
 have hI:Sp PP F.yz #[.slice a n c,.func (.func g) #[] #[]] w λv w'=>((∃k:Nat,v=.int .i64 (k:Int)/\k<l.length/\p k)\/(v=.int .i64 (-1)/\∀i,i<l.length->¬p i))/\Stp w w':=by
  have q_:=h.len
  obtain rfl:=q_
  refine en TBok rfl ?_
  refine cnt TBok 9 [4,5] 8 l.length (λk u=>(∀i,i<k->¬p i)/\Stp w u) rfl rfl ⟨(λi hi=>by omega),stp⟩ ?_
  rintro k g' u hk ⟨hall,e⟩
  refine ite (λhlt=>?_) (λhge=>?_)
  ·have hka:k<l.length:=by omega
   refine rix (h.up (w':=u)) (x:=l[k]) (by simp) λb1 o1 A1=>rload1 (A1.cell0 rfl) (rcall (hf k hka u e.e) ?_)
   rintro _ u1 ⟨⟨rfl,hy⟩|⟨rfl,hy⟩,e1⟩
   ·exact⟨.inl ⟨k,rfl,hka,hy⟩,stp⟩
   ·exact rA ⟨rfl,hka,belowN hall hy,stp⟩
  ·have q_:k=l.length:=by omega
   obtain rfl:=q_
   exact⟨.inr ⟨rfl,hall⟩,stp⟩
 refine en TBok rfl ?_
 refine rcall hI ?_
 rintro _ u1 ⟨⟨k,rfl,hk,hy⟩|⟨rfl,hy⟩,e1⟩
 ·refine ite (λh1=>⟨.t ⟨k,hk,hy⟩,stp⟩) (λh1=>absurd h1 (by omega))
 ·refine ite (λh1=>absurd h1 (by omega)) (λh1=>⟨.f (λ⟨y,h2,h3⟩=>hy y h2 h3),stp⟩)
abbrev orderV (f:FuncId):Value:=.agg #[.func (.func f) #[] #[]]
theorem zAy:Sp PP F.cj #[] w λv w'=>v=orderV F.qd/\Stp w w':=by
 refine en TBok rfl ?_
 refine ral λb w1 n1 z1=>rbuild (cs:=[.func (.func F.qd) #[] #[]]) rfl (rsto (B:=z1) (vs:=[.func (.func F.qd) #[] #[]]) rfl rfl rfl (by intro u hu;simp at hu;subst hu;rfl) λw2 B2 f2 _=>?_)
 have s2:Stp w w2:=⟨Fr.st Le.e f2 λi hi=>by subst hi;exact n1.lo⟩
 have B2:Bk w2 b [.func (.func F.qd) #[] #[]] E.yp:=B2
 exact rresG rfl ⟨rfl,stp⟩
theorem zBU:Sp PP F.cl #[] w λv w'=>v=orderV F.qi/\Stp w w':=by
 refine en TBok rfl ?_
 refine ral λb w1 n1 z1=>rbuild (cs:=[.func (.func F.qi) #[] #[]]) rfl (rsto (B:=z1) (vs:=[.func (.func F.qi) #[] #[]]) rfl rfl rfl (by intro u hu;simp at hu;subst hu;rfl) λw2 B2 f2 _=>?_)
 have s2:Stp w w2:=⟨Fr.st Le.e f2 λi hi=>by subst hi;exact n1.lo⟩
 have B2:Bk w2 b [.func (.func F.qi) #[] #[]] E.ye:=B2
 exact rresG rfl ⟨rfl,stp⟩
def cfE (a b:EdN):Int:=orI [cmpI a.f b.f,cmpI a.t b.t]
theorem zFi(a b:EdN):cfE a b<0↔ltE a b:=by
 unfold cfE ltE
 rw [or_neg,or_neg]
 have:=or_nil
 constructor
 ·rintro(h|⟨h,h1|⟨_,h2⟩⟩)
  ·exact .inl (by omega)
  ·exact .inr ⟨by omega,by omega⟩
  ·exact absurd h2 this
 ·rintro(h|⟨h,h1⟩)
  ·exact .inl (by omega)
  ·exact .inr ⟨by omega,.inl (by omega)⟩
theorem zCG{a b:EdN}:Sp PP F.qi #[agg a,agg b] w λv w'=>v=.int .i64 (cfE a b)/\Gw w w':=by
 refine en TBok rfl ?_
 refine rbx λba w1 n1 B1=>rbx λbb w2 n2 B2=>drawRE TBok mixed (λ_=>False) (.one 0 (.one 1 (.one 2 (.one 3 (.one 5 (.one 6 (.one 7 (.one 8 (.one 4 (.one 9 (.one 10 (.one 11 (.one 12 .nil))))))))))))) (by kernel_rfl) λw3 e3 g3=>?_
 refine tld (B:=B1) rfl nf (tld (B:=B2) rfl nf ?_)
 refine tld (B:=B1) rfl nf (tld (B:=B2) rfl nf ?_)
 refine rcall zAe ?_
 rintro v w4 ⟨rfl,rfl⟩
 refine⟨Fr.refl _ _,?_⟩
 refine rcall zAe ?_
 rintro v w5 ⟨rfl,rfl⟩
 refine⟨Fr.refl _ _,?_⟩
 refine rbsN [cmpI a.f b.f,cmpI a.t b.t] rfl (vs:=[.int .i64 (cmpI a.f b.f),.int .i64 (cmpI a.t b.t)]) rfl rfl (by decide) λb7 w7 n7 S7=>⟨n7.e,?_⟩
 refine rcall (zBB S7 (by simp)) ?_
 rintro v w8 ⟨rfl,rfl⟩
 refine⟨Fr.refl _ _,?_⟩
 exact⟨rfl,n1.gw.trans (n2.gw.trans (g3.trans n7.gw))⟩
def nextLt {α:Type} (lt:α->α->Prop) (l:List α):Prop:=∀i (h:i+1<l.length),lt l[i] l[i+1]
theorem zCw{α:Type}{lt:α->α->Prop}(htr:∀x y z,lt x y->lt y z->lt x z){l:List α}:nextLt lt l↔l.Pairwise lt:=by
 constructor
 ·intro h
  rw [List.pairwise_iff_getElem]
  intro i j hi hj hij
  have q_:=Nat.exists_eq_add_of_lt hij
  obtain⟨d,rfl⟩:=q_
  clear hij
  induction d with
  |zero=>exact h i hj
  |succ d ih=>exact htr _ _ _ (ih (by omega)) (h (i+d+1) hj)
 ·intro h i hi
  exact List.pairwise_iff_getElem.1 h i (i+1) (by omega) hi (by omega)
theorem ltE_tr(x y z:EdN)(h:ltE x y)(k:ltE y z):ltE x z:=by unfold ltE at *;omega
theorem ltW_tr(x y z:ByteArray)(h:ltW x y)(k:ltW y z):ltW x z:=List.lt_trans h k
theorem zDZ{c:Nat}{l:List ByteArray}(h:SlF w (.slice a n c) l)(hn:l.length<=1000000):
  Sp PP F.pf #[.slice a n c,orderV F.qd] w λv w'=>Tells (l.Pairwise ltW) v/\Stp w w':=by
 have q_:=h.len
 obtain rfl:=q_
 refine en TBok rfl ?_
 refine rbx λbo w1 n1 B1=>?_
 refine loop1 TBok 6 [4] 5 (λv u=>∃k:Nat,v=.int .i64 ((k:Int)+1)/\(k=0\/k+1<=l.length)/\(∀i (h:i+1<l.length),i<k->ltW l[i] l[i+1])/\Stp w1 u) (λv _=>l.length+1 - (Go.RowKit.intOf v).toNat) rfl
  ⟨0,rfl,.inl rfl,λi _ hi=>by omega,stp⟩ ?_
 rintro v g u ⟨k,rfl,hk,hall,e⟩
 refine ite (λhlt=>?_) (λhge=>⟨.t ((zCw ltW_tr).1 λi hi=>hall i hi (by omega)),stp⟩)
 have hk1:k+1<l.length:=by omega
 refine drawR TBok mixed (λ_=>False) (upF 13 0) (by kernel_rfl) λu2 e2 _=>tld (B:=B1) rfl nf (rarE (y:=((k:Nat):Int)) (by omega) (by omega) ?_)
 have S2:=h.up (w':=u2)
 refine tix S2 (x:=l[k]) (by simp) λb3 o3 A3 _=>tload1 (A3.cell0 rfl) nf (tix (i:=k+1) S2 (x:=l[k+1]) (by simp) λb4 o4 A4 _=>tload1 (A4.cell0 rfl) nf (rcall zCf ?_))
 rintro v u5 ⟨rfl,rfl⟩
 refine⟨Fr.refl _ _,?_⟩
 refine ite (λh1=>⟨.f λhp=>?_,stp⟩) (λh1=>?_)
 ·have:=(zCw ltW_tr).2 hp k hk1
  have:=(zDR _ _).2 this
  omega
 ·have hl:ltW l[k] l[k+1]:=(zDR _ _).1 (by omega)
  refine rA ⟨⟨k+1,rfl,.inr (by omega),λi hi hik=>?_,stp⟩,?_⟩
  ·have q_:=Nat.lt_or_ge i k
   rcases q_ with h2|h2
   ·exact hall i hi h2
   ·have q_:i=k:=by omega
    obtain rfl:=q_
    exact hl
  ·show l.length+1 - (((k:Int)+1+1)).toNat<l.length+1 - (((k:Int)+1)).toNat
   omega
theorem zEU{c:Nat}{l:List EdN}(h:SlF w (.slice a n c) l)(hn:l.length<=1000000):
  Sp PP F.da #[.slice a n c,orderV F.qi] w λv w'=>Tells (l.Pairwise ltE) v/\Stp w w':=by
 have q_:=h.len
 obtain rfl:=q_
 refine en TBok rfl ?_
 refine rbx λbo w1 n1 B1=>?_
 refine loop1 TBok 6 [4] 5 (λv u=>∃k:Nat,v=.int .i64 ((k:Int)+1)/\(k=0\/k+1<=l.length)/\(∀i (h:i+1<l.length),i<k->ltE l[i] l[i+1])/\Stp w1 u) (λv _=>l.length+1 - (Go.RowKit.intOf v).toNat) rfl
  ⟨0,rfl,.inl rfl,λi _ hi=>by omega,stp⟩ ?_
 rintro v g u ⟨k,rfl,hk,hall,e⟩
 refine ite (λhlt=>?_) (λhge=>⟨.t ((zCw ltE_tr).1 λi hi=>hall i hi (by omega)),stp⟩)
 have hk1:k+1<l.length:=by omega
 refine drawR TBok mixed (λ_=>False) (upF 13 0) (by kernel_rfl) λu2 e2 _=>tld (B:=B1) rfl nf (rarE (y:=((k:Nat):Int)) (by omega) (by omega) ?_)
 have S2:=h.up (w':=u2)
 refine tix S2 (x:=l[k]) (by simp) λb3 o3 A3 _=>tloadA A3 rfl nf (tix (i:=k+1) S2 (x:=l[k+1]) (by simp) λb4 o4 A4 _=>tloadA A4 rfl nf (rcall zCG ?_))
 rintro v u5 ⟨rfl,g5⟩
 have s5:Stp u2 u5:=⟨g5.ext⟩
 refine⟨g5.ext,?_⟩
 refine ite (λh1=>⟨.f λhp=>?_,stp⟩) (λh1=>?_)
 ·have:=(zCw ltE_tr).2 hp k hk1
  have:=(zFi _ _).2 this
  omega
 ·have hl:ltE l[k] l[k+1]:=(zFi _ _).1 (by omega)
  refine rA ⟨⟨k+1,rfl,.inr (by omega),λi hi hik=>?_,stp⟩,?_⟩
  ·have q_:=Nat.lt_or_ge i k
   rcases q_ with h2|h2
   ·exact hall i hi h2
   ·have q_:i=k:=by omega
    obtain rfl:=q_
    exact hl
  ·show l.length+1 - (((k:Int)+1+1)).toNat<l.length+1 - (((k:Int)+1)).toNat
   omega
structure GrChk (g:GrD):Prop where
 n1:1<=g.n
 n2:g.n<=200
 ne:g.es.length<=2000
 nw:g.ws.length=g.n
 ed:∀e∈g.es,e.f<g.n/\e.t<g.n
 word:∀l∈g.ws,l.length<=8/\∀s∈l,WordB s
theorem GrIs.chk(h:GrIs g):GrChk g:=⟨h.ok.n1,h.ok.n2,h.ne,h.nw,h.ok.ed,h.word⟩
theorem zMy:GrIs g↔GrChk g/\g.es.Pairwise ltE/\∀l∈g.ws,l.Pairwise ltW:=
 ⟨λh=>⟨h.chk,h.er,h.wr⟩,λ⟨h,h1,h2⟩=>⟨⟨h.n1,h.n2,h.ed⟩,h.ne,h.nw,h.word,h1,h2⟩⟩
theorem zCI{x:RGr}{v:Int}:Sp PP F.dx #[agg x,.int .i64 v] w λr w'=>Tells (0<=v/\v<x.n) r/\Stp w w':=by
 refine en TBok rfl ?_
 refine rbx λb w1 n1 B1=>ite (λh1=>?_) (λh1=>⟨.f (λh=>h1 h.1),stp⟩)
 refine rld (B:=B1) rfl ?_
 exact ite (λh2=>⟨.t ⟨h1,h2⟩,stp⟩) (λh2=>⟨.f (λh=>h2 h.2),stp⟩)
theorem zDp{x:RGr}{vs:List SV}(V:GrV w x g vs):Sp PP F.ck #[agg x] w λv w'=>Tells (GrChk g) v/\Stp w w':=by
 have hn:=V.n;have hle:=V.es.len;have hlw:=V.ws.len;have hrl:=V.rows.1
 have q_:=V.small
 obtain⟨hs1,hs2,hs3⟩:=q_
 refine en TBok rfl ?_
 refine rbx λb w1 n1 B1=>rld (B:=B1) rfl (ite (λh1=>⟨.f (λh=>by have:=h.n1;omega),stp⟩) (λh1=>?_))
 refine rld (B:=B1) rfl (ite (λh2=>⟨.f (λh=>by have:=h.n2;omega),stp⟩) (λh2=>?_))
 refine rld (B:=B1) rfl (ite (λh3=>⟨.f (λh=>by have:=h.ne;omega),stp⟩) (λh3=>?_))
 refine rld (B:=B1) rfl (rld (B:=B1) rfl (ite (λh4=>⟨.f (λh=>by have:=h.nw;omega),stp⟩) (λh4=>?_)))
 refine rld (B:=B1) rfl (cnt TBok 32 [2,4] 32 g.es.length (λk u=>(∀e∈g.es.take k,e.f<g.n/\e.t<g.n)/\Stp w1 u) rfl rfl ⟨by simp,stp⟩ ?_)
 rintro k gf u hk ⟨hall,e⟩
 refine ite (λhlt=>?_) (λhge=>?_)
 ·have hka:k<g.es.length:=by omega
  have no:¬(g.es[k].f<g.n/\g.es[k].t<g.n)->¬GrChk g:=λh hc=>h (hc.ed _ (List.getElem_mem _))
  refine rix (V.es.up (w':=u)) (x:=g.es[k]) (by simp) λb2 o2 A2=>rloadA A2 rfl (ral λb3 w3 n3 z3=>rsto (B:=z3) (vs:=enc g.es[k]) rfl rfl rfl (Enc.one _) λw4 B4 f4 _=>?_)
  have s4:Stp u w4:=⟨Fr.st Le.e f4 λi hi=>by subst hi;exact n3.lo⟩
  have B4:Bk w4 b3 (enc g.es[k]) E.qr:=B4
  refine rldG (ds:=enc x) (B:=B1) rfl rfl (rld (B:=B4) rfl (rcall (zCI (x:=x)) ?_))
  rintro _ w5 ⟨⟨rfl,h5⟩|⟨rfl,h5⟩,e5⟩
  case' inr=>exact⟨.f (no (by omega)),stp⟩
  refine rldG (ds:=enc x) (B:=B1) rfl rfl (rld (B:=B4) rfl (rcall (zCI (x:=x)) ?_))
  rintro _ w6 ⟨⟨rfl,h6⟩|⟨rfl,h6⟩,e6⟩
  case' inr=>exact⟨.f (no (by omega)),stp⟩
  refine rA ⟨rfl,hka,λt ht=>?_,stp⟩
  rw [zAa hka] at ht
  have q_:=List.mem_append.1 ht
  rcases q_ with ht|ht
  ·exact hall t ht
  ·rw [List.mem_singleton.1 ht];omega
 have q_:k=g.es.length:=by omega
 obtain rfl:=q_
 rw [List.take_length] at hall
 refine rld (B:=B1) rfl (cnt TBok 52 [2,6] 52 vs.length (λk u'=>(∀l∈g.ws.take k,l.length<=8/\∀s∈l,WordB s)/\Stp u u') rfl rfl ⟨by simp,stp⟩ ?_)
 rintro k gf u' hk ⟨hallw,e'⟩
 refine ite (λhlt=>?_) (λhge=>?_)
 ·have hka:k<vs.length:=by omega
  have hkw:k<g.ws.length:=by omega
  have no:¬(g.ws[k].length<=8/\∀s∈g.ws[k],WordB s)->¬GrChk g:=λh hc=>h (hc.word _ (List.getElem_mem _))
  refine rix (V.ws.up (w':=u')) (x:=vs[k]) (by simp) λb2 o2 A2=>rload1 (A2.cell0 rfl) ?_
  have R:=(V.rows.up (w':=u')).2 k hka hkw
  have hl:=R.len
  refine ite (λh7=>⟨.f (no (by omega)),stp⟩) (λh7=>?_)
  refine rcall (zBq (first:=[]) (cap:=[]) (p:=λs=>¬WordB s) R (by omega) (λr u1 hr _=>zF3 (V.words _ (List.getElem_mem _) r hr))) ?_
  rintro _ w5 ⟨⟨rfl,h8⟩|⟨rfl,h8⟩,e5⟩
  ·exact⟨.f (no λ⟨_,h⟩=>by obtain⟨y,hy,hy2⟩:=h8;exact hy2 (h y hy)),stp⟩
  ·refine rA ⟨rfl,hka,λt ht=>?_,stp⟩
   rw [zAa hkw] at ht
   have q_:=List.mem_append.1 ht
   rcases q_ with ht|ht
   ·exact hallw t ht
   ·rw [List.mem_singleton.1 ht]
    exact⟨by omega,λs hs=>Classical.not_not.1 λh=>h8 ⟨s,hs,h⟩⟩
 ·have q_:k=vs.length:=by omega
  obtain rfl:=q_
  rw [List.take_of_length_le (by omega)] at hallw
  exact⟨.t ⟨by omega,by omega,by omega,by omega,hall,hallw⟩,stp⟩
theorem zIo{c:Nat}{l:List ByteArray}(h:SlF w (.slice a n c) l)(hn:l.length<=1000000):
  Sp PP F.cz #[.slice a n c] w λv w'=>Tells (¬l.Pairwise ltW) v/\Stp w w':=by
 refine en TBok rfl ?_
 refine rcall zAy ?_
 rintro _ w1 ⟨rfl,e1⟩
 refine rcall (zDZ (h.up (w':=w1)) hn) ?_
 rintro _ w2 ⟨⟨rfl,h2⟩|⟨rfl,h2⟩,e2⟩
 ·exact⟨.f (λh=>h h2),stp⟩
 ·exact⟨.t h2,stp⟩
theorem zDh{x:RGr}{vs:List SV}(V:GrV w x g vs):Sp PP F.qa1 #[agg x] w λv w'=>Tells (GrIs g) v/\Stp w w':=by
 refine en TBok rfl ?_
 refine rbx λb w1 n1 B1=>drawR TBok mixed (λ_=>False) (upF 16 0) (by kernel_rfl) λw2 e2 _=>tldG (ds:=enc x) (B:=B1) rfl rfl nf (rcall (zDp (V.up (w':=w2))) ?_)
 rintro _ w3 ⟨⟨rfl,h3⟩|⟨rfl,h3⟩,e3⟩
 case' inr=>exact⟨e3.e,⟨.f (λh=>h3 h.chk),stp⟩⟩
 refine⟨e3.e,?_⟩
 refine tld (B:=B1) rfl nf (rcall zBU ?_)
 rintro _ w4 ⟨rfl,e4⟩
 refine⟨e4.e,?_⟩
 refine rcall (zEU (V.es.up (w':=w4)) V.small.1) ?_
 rintro _ w5 ⟨⟨rfl,h5⟩|⟨rfl,h5⟩,e5⟩
 case' inr=>exact⟨e5.e,⟨.f (λh=>h5 h.er),stp⟩⟩
 refine⟨e5.e,?_⟩
 refine tld (B:=B1) rfl nf ?_
 have R5:=V.rows.up (w':=w5)
 refine rcall (zCV (p:=λi=>∃h2:i<g.ws.length,¬(g.ws[i]).Pairwise ltW) (V.ws.up (w':=w5)) V.small.2.1 (λi hi u1 L=>?_)) ?_
 ·have hiw:i<g.ws.length:=by rw [<-R5.1];exact hi
  have hR:SlF u1 vs[i].v g.ws[i]:=(R5.2 i hi hiw).ext L
  exact(zIo (l:=g.ws[i]) hR (V.small.2.2 _ (List.getElem_mem _))).mono λv u2 ⟨h7,e7⟩=>⟨by
   rcases h7 with ⟨rfl,h7⟩|⟨rfl,h7⟩
   ·exact .t ⟨hiw,h7⟩
   ·exact .f λ⟨_,h8⟩=>h7 h8,e7⟩
 rintro _ w6 ⟨⟨rfl,h6⟩|⟨rfl,h6⟩,e6⟩
 ·refine⟨e6.e,.f (λh=>?_),stp⟩
  obtain⟨i,_,h2,h3⟩:=h6
  exact h3 (h.wr _ (List.getElem_mem _))
 ·refine⟨e6.e,.t (zMy.2 ⟨h3,h5,?_⟩),stp⟩
  intro l hl
  have q_:=List.mem_iff_getElem.1 hl
  obtain⟨i,hi,rfl⟩:=q_
  have hiv:i<vs.length:=by have:=R5.1;omega
  exact Classical.not_not.1 λhh=>h6 ⟨i,hiv,hi,hh⟩
end Go.W
namespace Go.Proofs
open Go.Shelf
def Tryz.sortE_ren:Go.Shelf.Ren:=⟨fun|6=>234|15=>121|14=>285|28=>188|29=>189|20=>317|21=>318|22=>319|23=>320|24=>321|25=>322|26=>323|27=>324|46=>343|47=>242|48=>243|49=>344|50=>345|57=>375|n=>n,fun|22=>31|24=>105|25=>200|3=>3|39=>231|0=>0|53=>309|55=>311|4=>4|46=>303|45=>302|50=>129|5=>5|9=>9|66=>383|70=>387|76=>435|77=>436|n=>n,fun|n=>n⟩
theorem Tryz.sortE:Go.Proofs.SlLaysF0.n6 Tryz.prog Tryz.sortE_ren:={
 mixed:=by kernel_rfl
 f6:=⟨Tryz.f234.name,by decide,W.ff Tryz.func234⟩
 f14:=⟨Tryz.f285.name,by decide,W.ff Tryz.func285⟩
 f15:=W.ff Tryz.func121
 f20:=⟨Tryz.f317.name,by decide,W.ff Tryz.func317⟩
 f21:=⟨Tryz.f318.name,by decide,W.ff Tryz.func318⟩
 f22:=⟨Tryz.f319.name,by decide,W.ff Tryz.func319⟩
 f23:=⟨Tryz.f320.name,by decide,W.ff Tryz.func320⟩
 f24:=⟨Tryz.f321.name,by decide,W.ff Tryz.func321⟩
 f25:=⟨Tryz.f322.name,by decide,W.ff Tryz.func322⟩
 f26:=⟨Tryz.f323.name,by decide,W.ff Tryz.func323⟩
 f27:=⟨Tryz.f324.name,by decide,W.ff Tryz.func324⟩
 f28:=W.ff Tryz.func188
 f29:=W.ff Tryz.func189
 f46:=⟨Tryz.f343.name,by decide,W.ff Tryz.func343⟩
 f47:=W.ff Tryz.func242
 f48:=W.ff Tryz.func243
 f49:=⟨Tryz.f344.name,by decide,W.ff Tryz.func344⟩
 f50:=⟨Tryz.f345.name,by decide,W.ff Tryz.func345⟩
 f57:=⟨Tryz.f375.name,by decide,W.ff Tryz.func375⟩
 t0:=Tryz.underlying0
 a0:=Tryz.isAgg0
 z0:=Tryz.sizeOf0
 v0:=Tryz.zeroValue0
 t3:=Tryz.underlying3
 a3:=Tryz.isAgg3
 z3:=Tryz.sizeOf3
 v3:=Tryz.zeroValue3
 t4:=Tryz.underlying4
 a4:=Tryz.isAgg4
 z4:=Tryz.sizeOf4
 v4:=Tryz.zeroValue4
 t5:=Tryz.underlying5
 a5:=Tryz.isAgg5
 z5:=Tryz.sizeOf5
 v5:=Tryz.zeroValue5
 t9:=Tryz.underlying9
 a9:=Tryz.isAgg9
 z9:=Tryz.sizeOf9
 v9:=Tryz.zeroValue9
 t22:=Tryz.underlying31
 a22:=Tryz.isAgg31
 z22:=Tryz.sizeOf31
 v22:=Tryz.zeroValue31
 t25:=Tryz.underlying200
 a25:=Tryz.isAgg200
 z25:=Tryz.sizeOf200
 v25:=Tryz.zeroValue200
 t39:=Tryz.underlying231
 a39:=Tryz.isAgg231
 z39:=Tryz.sizeOf231
 v39:=Tryz.zeroValue231
 t45:=Tryz.underlying302
 a45:=Tryz.isAgg302
 z45:=Tryz.sizeOf302
 v45:=Tryz.zeroValue302
 t46:=Tryz.underlying303
 a46:=Tryz.isAgg303
 z46:=Tryz.sizeOf303
 v46:=Tryz.zeroValue303
 t50:=Tryz.underlying129
 a50:=Tryz.isAgg129
 z50:=Tryz.sizeOf129
 v50:=Tryz.zeroValue129
 t53:=Tryz.underlying309
 a53:=Tryz.isAgg309
 z53:=Tryz.sizeOf309
 v53:=Tryz.zeroValue309
 t55:=Tryz.underlying311
 a55:=Tryz.isAgg311
 z55:=Tryz.sizeOf311
 v55:=Tryz.zeroValue311
 t66:=Tryz.underlying383
 a66:=Tryz.isAgg383
 z66:=Tryz.sizeOf383
 v66:=Tryz.zeroValue383
 t70:=Tryz.underlying387
 a70:=Tryz.isAgg387
 z70:=Tryz.sizeOf387
 v70:=Tryz.zeroValue387
 t76:=Tryz.underlying435
 a76:=Tryz.isAgg435
 z76:=Tryz.sizeOf435
 v76:=Tryz.zeroValue435
 t77:=Tryz.underlying436
 a77:=Tryz.isAgg436
 z77:=Tryz.sizeOf436
 v77:=Tryz.zeroValue436 }
end Go.Proofs
namespace Go.Proofs
open Go.Shelf
def Tryz.sortW_ren:Go.Shelf.Ren:=⟨fun|6=>237|15=>121|14=>286|28=>188|29=>189|20=>325|21=>326|22=>327|23=>328|24=>329|25=>330|26=>331|27=>332|46=>346|47=>242|48=>243|49=>347|50=>348|57=>376|n=>n,fun|22=>45|24=>9|25=>194|3=>3|39=>231|0=>0|53=>309|55=>311|4=>4|46=>303|45=>302|50=>129|5=>5|9=>9|66=>383|70=>387|76=>435|77=>436|n=>n,fun|n=>n⟩
theorem Tryz.sortW:Go.Proofs.SlLaysF.n6 Tryz.prog Tryz.sortW_ren:={
 mixed:=by kernel_rfl
 f6:=⟨Tryz.f237.name,by decide,W.ff Tryz.func237⟩
 f14:=⟨Tryz.f286.name,by decide,W.ff Tryz.func286⟩
 f15:=W.ff Tryz.func121
 f20:=⟨Tryz.f325.name,by decide,W.ff Tryz.func325⟩
 f21:=⟨Tryz.f326.name,by decide,W.ff Tryz.func326⟩
 f22:=⟨Tryz.f327.name,by decide,W.ff Tryz.func327⟩
 f23:=⟨Tryz.f328.name,by decide,W.ff Tryz.func328⟩
 f24:=⟨Tryz.f329.name,by decide,W.ff Tryz.func329⟩
 f25:=⟨Tryz.f330.name,by decide,W.ff Tryz.func330⟩
 f26:=⟨Tryz.f331.name,by decide,W.ff Tryz.func331⟩
 f27:=⟨Tryz.f332.name,by decide,W.ff Tryz.func332⟩
 f28:=W.ff Tryz.func188
 f29:=W.ff Tryz.func189
 f46:=⟨Tryz.f346.name,by decide,W.ff Tryz.func346⟩
 f47:=W.ff Tryz.func242
 f48:=W.ff Tryz.func243
 f49:=⟨Tryz.f347.name,by decide,W.ff Tryz.func347⟩
 f50:=⟨Tryz.f348.name,by decide,W.ff Tryz.func348⟩
 f57:=⟨Tryz.f376.name,by decide,W.ff Tryz.func376⟩
 t0:=Tryz.underlying0
 a0:=Tryz.isAgg0
 z0:=Tryz.sizeOf0
 v0:=Tryz.zeroValue0
 t3:=Tryz.underlying3
 a3:=Tryz.isAgg3
 z3:=Tryz.sizeOf3
 v3:=Tryz.zeroValue3
 t4:=Tryz.underlying4
 a4:=Tryz.isAgg4
 z4:=Tryz.sizeOf4
 v4:=Tryz.zeroValue4
 t5:=Tryz.underlying5
 a5:=Tryz.isAgg5
 z5:=Tryz.sizeOf5
 v5:=Tryz.zeroValue5
 t9:=Tryz.underlying9
 a9:=Tryz.isAgg9
 z9:=Tryz.sizeOf9
 v9:=Tryz.zeroValue9
 t22:=Tryz.underlying45
 a22:=Tryz.isAgg45
 z22:=Tryz.sizeOf45
 v22:=Tryz.zeroValue45
 a24:=Tryz.isAgg9
 z24:=Tryz.sizeOf9
 t25:=Tryz.underlying194
 a25:=Tryz.isAgg194
 z25:=Tryz.sizeOf194
 v25:=Tryz.zeroValue194
 t39:=Tryz.underlying231
 a39:=Tryz.isAgg231
 z39:=Tryz.sizeOf231
 v39:=Tryz.zeroValue231
 t45:=Tryz.underlying302
 a45:=Tryz.isAgg302
 z45:=Tryz.sizeOf302
 v45:=Tryz.zeroValue302
 t46:=Tryz.underlying303
 a46:=Tryz.isAgg303
 z46:=Tryz.sizeOf303
 v46:=Tryz.zeroValue303
 t50:=Tryz.underlying129
 a50:=Tryz.isAgg129
 z50:=Tryz.sizeOf129
 v50:=Tryz.zeroValue129
 t53:=Tryz.underlying309
 a53:=Tryz.isAgg309
 z53:=Tryz.sizeOf309
 v53:=Tryz.zeroValue309
 t55:=Tryz.underlying311
 a55:=Tryz.isAgg311
 z55:=Tryz.sizeOf311
 v55:=Tryz.zeroValue311
 t66:=Tryz.underlying383
 a66:=Tryz.isAgg383
 z66:=Tryz.sizeOf383
 v66:=Tryz.zeroValue383
 t70:=Tryz.underlying387
 a70:=Tryz.isAgg387
 z70:=Tryz.sizeOf387
 v70:=Tryz.zeroValue387
 t76:=Tryz.underlying435
 a76:=Tryz.isAgg435
 z76:=Tryz.sizeOf435
 v76:=Tryz.zeroValue435
 t77:=Tryz.underlying436
 a77:=Tryz.isAgg436
 z77:=Tryz.sizeOf436
 v77:=Tryz.zeroValue436 }
end Go.Proofs
namespace Go.Proofs
open Go.Shelf
def Tryz.sortV_ren:Go.Shelf.Ren:=⟨fun|6=>237|15=>121|14=>286|28=>188|29=>189|20=>325|21=>326|22=>327|23=>328|24=>329|25=>330|26=>331|27=>332|46=>346|47=>242|48=>243|49=>347|50=>348|57=>376|n=>n,fun|22=>45|24=>9|25=>194|3=>3|39=>231|0=>0|53=>309|55=>311|4=>4|46=>303|45=>302|50=>129|5=>5|9=>9|66=>383|70=>387|76=>435|77=>436|n=>n,fun|n=>n⟩
theorem Tryz.sortV:Go.Proofs.SlLaysF0.n6 Tryz.prog Tryz.sortV_ren:={
 mixed:=by kernel_rfl
 f6:=⟨Tryz.f237.name,by decide,W.ff Tryz.func237⟩
 f14:=⟨Tryz.f286.name,by decide,W.ff Tryz.func286⟩
 f15:=W.ff Tryz.func121
 f20:=⟨Tryz.f325.name,by decide,W.ff Tryz.func325⟩
 f21:=⟨Tryz.f326.name,by decide,W.ff Tryz.func326⟩
 f22:=⟨Tryz.f327.name,by decide,W.ff Tryz.func327⟩
 f23:=⟨Tryz.f328.name,by decide,W.ff Tryz.func328⟩
 f24:=⟨Tryz.f329.name,by decide,W.ff Tryz.func329⟩
 f25:=⟨Tryz.f330.name,by decide,W.ff Tryz.func330⟩
 f26:=⟨Tryz.f331.name,by decide,W.ff Tryz.func331⟩
 f27:=⟨Tryz.f332.name,by decide,W.ff Tryz.func332⟩
 f28:=W.ff Tryz.func188
 f29:=W.ff Tryz.func189
 f46:=⟨Tryz.f346.name,by decide,W.ff Tryz.func346⟩
 f47:=W.ff Tryz.func242
 f48:=W.ff Tryz.func243
 f49:=⟨Tryz.f347.name,by decide,W.ff Tryz.func347⟩
 f50:=⟨Tryz.f348.name,by decide,W.ff Tryz.func348⟩
 f57:=⟨Tryz.f376.name,by decide,W.ff Tryz.func376⟩
 t0:=Tryz.underlying0
 a0:=Tryz.isAgg0
 z0:=Tryz.sizeOf0
 v0:=Tryz.zeroValue0
 t3:=Tryz.underlying3
 a3:=Tryz.isAgg3
 z3:=Tryz.sizeOf3
 v3:=Tryz.zeroValue3
 t4:=Tryz.underlying4
 a4:=Tryz.isAgg4
 z4:=Tryz.sizeOf4
 v4:=Tryz.zeroValue4
 t5:=Tryz.underlying5
 a5:=Tryz.isAgg5
 z5:=Tryz.sizeOf5
 v5:=Tryz.zeroValue5
 t9:=Tryz.underlying9
 a9:=Tryz.isAgg9
 z9:=Tryz.sizeOf9
 v9:=Tryz.zeroValue9
 t22:=Tryz.underlying45
 a22:=Tryz.isAgg45
 z22:=Tryz.sizeOf45
 v22:=Tryz.zeroValue45
 t25:=Tryz.underlying194
 a25:=Tryz.isAgg194
 z25:=Tryz.sizeOf194
 v25:=Tryz.zeroValue194
 t39:=Tryz.underlying231
 a39:=Tryz.isAgg231
 z39:=Tryz.sizeOf231
 v39:=Tryz.zeroValue231
 t45:=Tryz.underlying302
 a45:=Tryz.isAgg302
 z45:=Tryz.sizeOf302
 v45:=Tryz.zeroValue302
 t46:=Tryz.underlying303
 a46:=Tryz.isAgg303
 z46:=Tryz.sizeOf303
 v46:=Tryz.zeroValue303
 t50:=Tryz.underlying129
 a50:=Tryz.isAgg129
 z50:=Tryz.sizeOf129
 v50:=Tryz.zeroValue129
 t53:=Tryz.underlying309
 a53:=Tryz.isAgg309
 z53:=Tryz.sizeOf309
 v53:=Tryz.zeroValue309
 t55:=Tryz.underlying311
 a55:=Tryz.isAgg311
 z55:=Tryz.sizeOf311
 v55:=Tryz.zeroValue311
 t66:=Tryz.underlying383
 a66:=Tryz.isAgg383
 z66:=Tryz.sizeOf383
 v66:=Tryz.zeroValue383
 t70:=Tryz.underlying387
 a70:=Tryz.isAgg387
 z70:=Tryz.sizeOf387
 v70:=Tryz.zeroValue387
 t76:=Tryz.underlying435
 a76:=Tryz.isAgg435
 z76:=Tryz.sizeOf435
 v76:=Tryz.zeroValue435
 t77:=Tryz.underlying436
 a77:=Tryz.isAgg436
 z77:=Tryz.sizeOf436
 v77:=Tryz.zeroValue436 }
end Go.Proofs
namespace Go.W
open Go Go.Proofs
open Enc (enc)
set_option maxRecDepth 10000
variable {B hi i j k m n n2:Nat} {D:Nat -> Prop} {P:Program} {a a2:Option Addr} {g:GrD} {ps:List Int} {q:QyD} {s:List UInt8} {u u' w w' w1 w2:World}
theorem zNR:Go.Sort.SWO (ltOf cfE):=swo_of ltE zFi (λx h=>by unfold ltE at h;omega) (λx y z=>ltE_tr x y z) (λx y z h k=>by unfold ltE at *;omega)
def cfW (a b:ByteArray):Int:=Lib.compareBytes a.data.toList b.data.toList
theorem zKG(a b:ByteArray):cfW a b<0↔ltW a b:=zDR _ _
theorem zNT:Go.Sort.SWO (ltOf cfW):=swo_of ltW zKG (λx h=>List.lt_irrefl _ h) (λx y z=>ltW_tr x y z) (λx y z h k=>by
 unfold ltW at *
 exact List.not_lt.2 (List.le_trans (List.not_lt.1 k) (List.not_lt.1 h)))
theorem zHY(a b:ByteArray):ltW a b\/a=b\/ltW b a:=by
 unfold ltW
 have q_:=Classical.em (a.data.toList<b.data.toList)
 rcases q_ with h|h
 ·exact .inl h
 ·have q_:=Classical.em (b.data.toList<a.data.toList)
  rcases q_ with h2|h2
  ·exact .inr (.inr h2)
  ·have:=List.le_antisymm (List.not_lt.1 h2) (List.not_lt.1 h)
   refine .inr (.inl ?_)
   have h3:a.data=b.data:=by
    have:=congrArg List.toArray this
    simpa using this
   cases a;cases b;simp_all
theorem zL4(a b:EdN):ltE a b\/a=b\/ltE b a:=by
 obtain⟨a1,a2⟩:=a;obtain⟨b1,b2⟩:=b
 unfold ltE
 have q_:=Nat.lt_trichotomy a1 b1
 rcases q_ with h|rfl|h
 ·exact .inl (.inl h)
 ·have q_:=Nat.lt_trichotomy a2 b2
  rcases q_ with h|rfl|h
  ·exact .inl (.inr ⟨rfl,h⟩)
  ·exact .inr (.inl rfl)
  ·exact .inr (.inr (.inr ⟨rfl,h⟩))
 ·exact .inr (.inr (.inl h))
theorem zIh{α:Type}{lt:α->α->Prop}{l l':List α}(hc:∀a b,lt a b\/a=b\/lt b a)(hn:l.Nodup)(hp:l'.Perm l)(hs:l'.Pairwise λa b=>lt b a->False):l'.Pairwise lt:=by
 have hnd:=hp.nodup_iff.2 hn
 rw [List.nodup_iff_pairwise_ne] at hnd
 exact(hs.and hnd).imp λ{a b} h=>by
  have q_:=hc a b
  rcases q_ with h1|h1|h1
  ·exact h1
  ·exact absurd h1 h.2
  ·exact(h.1 h1).elim
theorem zGw{c:Nat}{l:List EdN}(h:SlF w (.slice a n c) l)(hd:l.Nodup)(hn:l.length<=1000000):
  Sp PP F.zt #[.slice a n c] w λv w'=>v=.slice a n c/\Stp w w':=by
 have q_:=h.len
 obtain rfl:=q_
 refine en TBok rfl ?_
 refine ite (λh1=>⟨rfl,stp⟩) (λh1=>?_)
 refine loop1 TBok 9 [2,4,5] 3 (λv u=>∃k:Nat,v=.int .i64 ((k:Int)+1)/\k+1<=l.length/\Stp w u) (λv _=>l.length+1 - (Go.RowKit.intOf v).toNat) rfl ⟨0,rfl,by omega,stp⟩ ?_
 rintro v g u ⟨k,rfl,hk,e⟩
 refine ite (λhlt=>?_) (λhge=>⟨rfl,stp⟩)
 have hk1:k+1<l.length:=by omega
 refine drawR TBok mixed (λ_=>False) (upF 10 0) (by kernel_rfl) λu2 e2 _=>?_
 have S2:=h.up (w':=u2)
 refine tix (i:=k+1) S2 (x:=l[k+1]) (by simp) λb4 o4 A4 _=>tloadA A4 rfl nf (rarE (y:=((k:Nat):Int)) (by omega) (by omega) (tix S2 (x:=l[k]) (by simp) λb3 o3 A3 _=>tloadA A3 rfl nf (tgeq EdN l[k+1] l[k] (λh2=>?_) (λh2=>?_))))
 ·have:=(List.getElem_inj hd).1 h2;omega
 ·refine rA ⟨⟨k+1,rfl,by omega,stp⟩,?_⟩
  show l.length+1 - (((k:Int)+1+1)).toNat<l.length+1 - (((k:Int)+1)).toNat
  omega
theorem zFw{c:Nat}{l:List ByteArray}(h:SlF w (.slice a n c) l)(hd:l.Nodup)(hn:l.length<=1000000):
  Sp PP F.zb #[.slice a n c] w λv w'=>v=.slice a n c/\Stp w w':=by
 have q_:=h.len
 obtain rfl:=q_
 refine en TBok rfl ?_
 refine ite (λh1=>⟨rfl,stp⟩) (λh1=>?_)
 refine loop1 TBok 9 [2,4,5] 3 (λv u=>∃k:Nat,v=.int .i64 ((k:Int)+1)/\k+1<=l.length/\Stp w u) (λv _=>l.length+1 - (Go.RowKit.intOf v).toNat) rfl ⟨0,rfl,by omega,stp⟩ ?_
 rintro v g u ⟨k,rfl,hk,e⟩
 refine ite (λhlt=>?_) (λhge=>⟨rfl,stp⟩)
 have hk1:k+1<l.length:=by omega
 refine drawR TBok mixed (λ_=>False) (upF 10 0) (by kernel_rfl) λu2 e2 _=>?_
 have S2:=h.up (w':=u2)
 refine tix (i:=k+1) S2 (x:=l[k+1]) (by simp) λb4 o4 A4 _=>tload1 (A4.cell0 rfl) nf (rarE (y:=((k:Nat):Int)) (by omega) (by omega) (tix S2 (x:=l[k]) (by simp) λb3 o3 A3 _=>tload1 (A3.cell0 rfl) nf (tseq (λh2=>?_) (λh2=>?_))))
 ·have:=(List.getElem_inj hd).1 h2;omega
 ·refine rA ⟨⟨k+1,rfl,by omega,stp⟩,?_⟩
  show l.length+1 - (((k:Int)+1+1)).toNat<l.length+1 - (((k:Int)+1)).toNat
  omega
theorem zEn{c:Nat}{l:List EdN}(h:SlF w (.slice a n c) l)(hn:l.length<=1000000):Sp PP F.pg #[.slice a n c] w λv w'=>Own w.heap.size E.qr w' v l/\Stp w w':=by
 obtain rfl:=h.len
 refine en TBok rfl ?_
 refine rsnil (λha=>?_) (λha=>?_)
 ·have hl:l=[]:=by
   obtain⟨a',c',hv,_,h'⟩:=h
   cases hv
   rcases h' with h'|⟨b,o,hb,_⟩
   ·exact h'
   ·rw [ha] at hb;cases hb
  subst hl
  exact⟨Own.nil _ _ _,stp⟩
 ·refine rbs (α:=EdN) [] rfl (vs:=[]) rfl rfl (by decide) λb1 w1 n1 _=>?_
  have s1:Stp w w1:=⟨n1.ext⟩
  refine rapp (u:=w) ⟨rfl,rfl⟩ (Own.nil' _ E.qr _ _) (h.up (w':=w1)) (by simp;omega) λv3 w3 O3 f3 s3=>?_
  rw [List.nil_append] at O3
  exact⟨O3,stp⟩
theorem zGv{c:Nat}{l:List ByteArray}(h:SlF w (.slice a n c) l)(hn:l.length<=1000000):Sp PP F.zu #[.slice a n c] w λv w'=>Own w.heap.size E.qg w' v l/\Stp w w':=by
 obtain rfl:=h.len
 refine en TBok rfl ?_
 refine rsnil (λha=>?_) (λha=>?_)
 ·have hl:l=[]:=by
   obtain⟨a',c',hv,_,h'⟩:=h
   cases hv
   rcases h' with h'|⟨b,o,hb,_⟩
   ·exact h'
   ·rw [ha] at hb;cases hb
  subst hl
  exact⟨Own.nil _ _ _,stp⟩
 ·refine rbs (α:=ByteArray) [] rfl (vs:=[]) rfl rfl (by decide) λb1 w1 n1 _=>?_
  have s1:Stp w w1:=⟨n1.ext⟩
  refine rapp (u:=w) ⟨rfl,rfl⟩ (Own.nil' _ E.qg _ _) (h.up (w':=w1)) (by simp;omega) λv3 w3 O3 f3 s3=>?_
  rw [List.nil_append] at O3
  exact⟨O3,stp⟩
theorem zBg{c:Nat}{l:List EdN}(h:SlF w (.slice a n c) l)(hd:l.Nodup)(hn:l.length<=1000000):
  Sp PP F.dc #[.slice a n c,orderV F.qi] w λv w'=>(∃l',l'.Perm l/\l'.Pairwise ltE/\Own w.heap.size E.qr w' v l')/\Stp w w':=by
 refine en TBok rfl ?_
 refine rbx λbo w1 n1 B1=>rcall (zEn (h.up (w':=w1)) hn) ?_
 rintro v w2 ⟨O2,e2⟩
 refine rld (B:=B1) rfl (rcall (zCA Tryz.sortE (k:=2) (show Agg PP E.qr 2 from inferInstance) rfl cfE zNR (f:=F.zl) rfl (λx y W=>zCG) O2 (by omega)) ?_)
 rintro r w3 ⟨rfl,l',hp,hs,O3,f3⟩
 have s3:Stw w1 w2 w3:=zAz f3
 have hst:=zIh zL4 hd hp (hs.imp λ{a b} h k=>h ((zFi _ _).2 k))
 have hl:=hp.length_eq
 have q_:=O3.shape
 obtain⟨a3,c3,rfl⟩:=q_
 refine rcall (zGw O3.sl (hp.nodup_iff.2 hd) (by omega)) ?_
 rintro v w4 ⟨rfl,e4⟩
 exact⟨⟨l',hp,hst,(O3.up (w':=w4)).mono (Le.size (a:=w) (b:=w1))⟩,stp⟩
theorem zAh{c:Nat}{l:List ByteArray}(h:SlF w (.slice a n c) l)(hd:l.Nodup)(hn:l.length<=1000000):
  Sp PP F.pi #[.slice a n c,orderV F.qd] w λv w'=>(∃l',l'.Perm l/\l'.Pairwise ltW/\Own w.heap.size E.qg w' v l')/\Stp w w':=by
 refine en TBok rfl ?_
 refine rbx λbo w1 n1 B1=>rcall (zGv (h.up (w':=w1)) hn) ?_
 rintro v w2 ⟨O2,e2⟩
 refine rld (B:=B1) rfl (rcall (zNq Tryz.sortW Tryz.sortV (val:=Value.string) (λ_=>rfl) cfW zNT (f:=F.y9) rfl rfl (λx y W=>zCf.mono λv w' ⟨h1,h2⟩=>⟨h1,h2 ▸ Gw.refl _⟩) O2 (by omega)) ?_)
 rintro r w3 ⟨rfl,l',hp,hs,O3,f3⟩
 have s3:Stw w1 w2 w3:=zAz f3
 have hst:=zIh zHY hd hp (hs.imp λ{a b} h k=>h ((zKG _ _).2 k))
 have hl:=hp.length_eq
 have q_:=O3.shape
 obtain⟨a3,c3,rfl⟩:=q_
 refine rcall (zFw O3.sl (hp.nodup_iff.2 hd) (by omega)) ?_
 rintro v w4 ⟨rfl,e4⟩
 exact⟨⟨l',hp,hst,(O3.up (w':=w4)).mono (Le.size (a:=w) (b:=w1))⟩,stp⟩
abbrev PanI:List PanicEntry:=[{ v:=.iface E.qk (.int .i64 30),recovered:=false }]
abbrev ImB (w:World) (b:Nat) (s:List UInt8) (A:Nat):Prop:=Bk w b [txt s,.int .i64 (A:Int)] E.yt
instance:Conc PP E.qk:=⟨by kernel_rfl⟩
theorem zF6{A b:Nat}{x:Value}{A':Nat}(B:ImB w b s A):Sp PP F.ys #[.pointer (some ⟨b,0,none⟩),x,.int .i64 (A':Int),.bool true] w λv w'=>v=x/\ImB w' b s A'/\Fr (λi=>i=b) w w':=by
 refine en TBok rfl ?_
 exact rsto (B:=B) (vs:=[.int .i64 (A':Int)]) rfl rfl rfl (zAf _) λw1 B1 f1 _=>⟨rfl,B1,f1⟩
theorem zF5{p x:Value}{a:Int}:SpP PP F.ys #[p,x,.int .i64 a,.bool false] w (λ_ _=>False) (λc w'=>c=PanI/\w'=w):=by
 refine enP TBok rfl ?_
 exact rmki (rpanic ⟨rfl,rfl⟩)
theorem zFz{A b:Nat}{x:Value}{A':Nat}(B:ImB w b s A):Sp PP F.yo #[.pointer (some ⟨b,0,none⟩),x,.int .i64 (A':Int),.bool true] w λv w'=>v=x/\ImB w' b s A'/\Fr (λi=>i=b) w w':=by
 refine en TBok rfl ?_
 exact rsto (B:=B) (vs:=[.int .i64 (A':Int)]) rfl rfl rfl (zAf _) λw1 B1 f1 _=>⟨rfl,B1,f1⟩
theorem zFy{p x:Value}{a:Int}:SpP PP F.yo #[p,x,.int .i64 a,.bool false] w (λ_ _=>False) (λc w'=>c=PanI/\w'=w):=by
 refine enP TBok rfl ?_
 exact rmki (rpanic ⟨rfl,rfl⟩)
theorem zEF{A b:Nat}{x:Value}{A':Nat}(B:ImB w b s A):Sp PP F.yb #[.pointer (some ⟨b,0,none⟩),x,.int .i64 (A':Int),.bool true] w λv w'=>v=x/\ImB w' b s A'/\Fr (λi=>i=b) w w':=by
 refine en TBok rfl ?_
 exact rsto (B:=B) (vs:=[.int .i64 (A':Int)]) rfl rfl rfl (zAf _) λw1 B1 f1 _=>⟨rfl,B1,f1⟩
theorem zEE{p x:Value}{a:Int}:SpP PP F.yb #[p,x,.int .i64 a,.bool false] w (λ_ _=>False) (λc w'=>c=PanI/\w'=w):=by
 refine enP TBok rfl ?_
 exact rmki (rpanic ⟨rfl,rfl⟩)
theorem zAV{A b:Nat}(B:ImB w b s A)(hs:s.length<=4611686018427387904):
  SpP PP F.zn #[.pointer (some ⟨b,0,none⟩)] w (λv w'=>∃n A':Nat,RdsV rdN s A n A'/\v=.int .i64 (n:Int)/\ImB w' b s A'/\Fr (λi=>i=b) w w')
   (λc w'=>c=PanI/\rdN (s.drop A)=none/\Fr (λi=>i=b) w w'):=by
 refine enP TBok rfl ?_
 refine drawR TBok mixed (λ_=>False) (upF 16 0) (by kernel_rfl) λw1 e1 _=>tld (B:=B) rfl nf (tld (B:=B) rfl nf ?_)
 refine rcall (zCq (A:=A) hs) ?_
 rintro _ w2 ⟨⟨n,A',hr,rfl⟩|⟨hno,rfl⟩,e2⟩
 ·refine⟨e2.e,?_⟩
  refine rcall (zF6 (B.mv (w:=w2))) ?_
  rintro _ w3 ⟨rfl,B3,f3⟩
  exact⟨n,A',hr,rfl,B3,(Fr.fr (Le.e (a:=w) (b:=w2))).trans f3⟩
 ·refine⟨e2.e,?_⟩
  refine rcallP zF5 (λ_ _ h=>h.elim) ?_
  rintro _ w3 ⟨rfl,rfl⟩
  exact⟨rfl,hno,Fr.fr (Le.e (a:=w) (b:=w3))⟩
theorem zEG{A b:Nat}(B:ImB w b s A)(hs:s.length<=4611686018427387904):
  SpP PP F.pu #[.pointer (some ⟨b,0,none⟩)] w (λv w'=>∃(l:List Nat) (A':Nat),RdsV rdRow s A l A'/\Own w.heap.size E.qa w' v (intsN l)/\ImB w' b s A'/\Fr (λi=>i=b) w w')
   (λc w'=>c=PanI/\rdRow (s.drop A)=none/\Fr (λi=>i=b) w w'):=by
 refine enP TBok rfl ?_
 refine drawR TBok mixed (λ_=>False) (upF 16 0) (by kernel_rfl) λw1 e1 _=>tld (B:=B) rfl nf (tld (B:=B) rfl nf ?_)
 refine rcall (zEI (A:=A) hs) ?_
 rintro _ w2 ⟨⟨l,A',v',hr,rfl,O⟩|⟨hno,rfl⟩,e2⟩
 ·refine⟨e2.e,?_⟩
  have B2:=B.mv (w:=w2)
  refine rcall (zFz B2) ?_
  rintro _ w3 ⟨rfl,B3,f3⟩
  exact⟨l,A',hr,(O.frc f3 B2 (by decide)).mono (Le.size (a:=w) (b:=w1)),B3,(Fr.fr (Le.e (a:=w) (b:=w2))).trans f3⟩
 ·refine⟨e2.e,?_⟩
  refine rcallP zFy (λ_ _ h=>h.elim) ?_
  rintro _ w3 ⟨rfl,rfl⟩
  exact⟨rfl,hno,Fr.fr (Le.e (a:=w) (b:=w3))⟩
theorem zD0{A b:Nat}(B:ImB w b s A)(hs:s.length<=4611686018427387904):
  SpP PP F.q8 #[.pointer (some ⟨b,0,none⟩)] w (λv w'=>∃(x:List UInt8) (A':Nat),RdsV rdT s A x A'/\v=txt x/\ImB w' b s A'/\Fr (λi=>i=b) w w')
   (λc w'=>c=PanI/\rdT (s.drop A)=none/\Fr (λi=>i=b) w w'):=by
 refine enP TBok rfl ?_
 refine drawR TBok mixed (λ_=>False) (upF 16 0) (by kernel_rfl) λw1 e1 _=>tld (B:=B) rfl nf (tld (B:=B) rfl nf ?_)
 refine rcall (zCU (A:=A) hs) ?_
 rintro _ w2 ⟨⟨x,A',hr,rfl⟩|⟨hno,rfl⟩,e2⟩
 ·refine⟨e2.e,?_⟩
  refine rcall (zEF (B.mv (w:=w2))) ?_
  rintro _ w3 ⟨rfl,B3,f3⟩
  exact⟨x,A',hr,rfl,B3,(Fr.fr (Le.e (a:=w) (b:=w2))).trans f3⟩
 ·refine⟨e2.e,?_⟩
  refine rcallP zEE (λ_ _ h=>h.elim) ?_
  rintro _ w3 ⟨rfl,rfl⟩
  exact⟨rfl,hno,Fr.fr (Le.e (a:=w) (b:=w3))⟩
theorem zAP{A b:Nat}(B:ImB w b s A)(hA:A<=s.length)(hs:s.length<=4611686018427387904):
  SpP PP F.zf #[.pointer (some ⟨b,0,none⟩),.int .i64 (n:Int),.int .i64 8,.func (.func F.q8) #[] #[]] w
   (λv w'=>∃(l:List (List UInt8)) (A':Nat),n<=8/\RdsV (rdMany rdT n) s A l A'/\Own w.heap.size E.qg w' v (l.map bsOf)/\ImB w' b s A'/\Fr (λi=>i=b) w w')
   (λc w'=>c=PanI/\(n<=8->rdMany rdT n (s.drop A)=none)/\Fr (λi=>i=b) w w'):=by
 refine enP TBok rfl ?_
 refine ite (λh=>?_) (λh=>?_)
 ·exact rmki (rpanic ⟨rfl,λh2=>by omega,Fr.refl _ _⟩)
 refine cnt1 TBok 15 [] 9 15 n (λk v u=>Fr (λi=>i=b) w u/\∃acc A',acc.length=k/\A'<=s.length/\Own w.heap.size E.qg u v (acc.map bsOf)/\ImB u b s A'/\preR acc (rdMany rdT (n - k) (s.drop A'))=rdMany rdT n (s.drop A)) rfl rfl
  ⟨Fr.refl _ _,[],A,rfl,hA,Own.nil _ _ _,B,by rw [zD8,Nat.sub_zero]⟩ ?_
 rintro k v g u hk ⟨fu,acc,A',hl,hA',O,Bu,hp⟩
 refine ite (λhlt=>?_) (λhge=>?_)
 ·have hkn:n - k=(n - (k+1))+1:=by omega
  refine rcallP (zD0 Bu hs) ?_ ?_
  ·rintro _ u1 ⟨x,A2,hr,rfl,B2,f2⟩
   have O2:=O.frc f2 Bu (by decide)
   refine rbs1 (bsOf x) rfl rfl (by decide) λb4 u4 e4 _ S4=>?_
   have hB4:w.heap.size<=u4.heap.size:=by have h1:=fu.size;have h2:=f2.size;have h3:=e4.e.size;omega
   refine rappB ⟨rfl,rfl⟩ (O2.up (w':=u4)) S4 hB4 (by simp;omega) λv5 u5 O5 f5=>?_
   have B5:=(B2.mv (w:=u4)).fro (O2.up (w':=u4)) f5 (by decide)
   have O5':Own w.heap.size E.qg u5 v5 ((acc++[x]).map bsOf):=by rw [List.map_append];exact O5
   refine rA ⟨rfl,by omega,Fr.new ((fu.trans f2).trans (Fr.fr e4.e)) f5 (λi hi=>hi.1),acc++[x],A2,by simp [hl],hr.1,O5',B5,?_⟩
   rw [<-hp,hkn,zAS hr.2]
  ·rintro _ u1 ⟨rfl,hno,f2⟩
   refine⟨rfl,λ_=>?_,fu.trans f2⟩
   rw [<-hp,hkn,zCc hno];rfl
 ·have q_:k=n:=by omega
  obtain rfl:=q_
  refine⟨acc,A',by omega,⟨hA',?_⟩,O,Bu,fu⟩
  rw [<-hp,Nat.sub_self]
  simp [rdMany,preR]
section
variable {P:Program} {k:Value->World->Prop} {pn:List PanicEntry->World->Prop} {w:World}
theorem rsslN{t:TypeId}[ht:StrT P t]{s:ByteArray}{y:Value}(hy:y=.int .i64 hi)(h2:hi<=s.size)(hk:k (.string (s.extract 0 hi)) w):SemV P (Instr.sliceAt t (.string s) none (some y) none) k pn w:=by
 subst hy
 have a1:(0:Int)<=(hi:Int)/\(hi:Int)<=(s.size:Int):=by omega
 refine SemV.of (w':=w) ?_ hk
 unfold Instr.sliceAt
 simp only [Sem.run_bind,zAr ht.h,Result.andThen_ok]
 unfold Instr.slice
 simp [Sem.run_bind,zAr ht.h,Result.andThen_ok,Instr.sliceBounds,Instr.sliceBound,asIntOf,a1]
 exact λh=>absurd h (by omega)
theorem rsslL{t:TypeId}[ht:StrT P t]{s:ByteArray}{lo:Nat}{y:Value}(hy:y=.int .i64 lo)(h2:lo<=s.size)(hk:k (.string (s.extract lo s.size)) w):SemV P (Instr.sliceAt t (.string s) (some y) none none) k pn w:=by
 subst hy
 have a1:(0:Int)<=(lo:Int)/\(lo:Int)<=(s.size:Int):=by omega
 refine SemV.of (w':=w) ?_ hk
 unfold Instr.sliceAt
 simp only [Sem.run_bind,zAr ht.h,Result.andThen_ok]
 unfold Instr.slice
 simp [Sem.run_bind,zAr ht.h,Result.andThen_ok,Instr.sliceBounds,Instr.sliceBound,asIntOf,a1]
 exact λh=>absurd h (by omega)
end
abbrev zGr:RGr:=⟨0,⟨none,0,0⟩,⟨none,0,0⟩⟩
theorem zEg{p:List UInt8}:Sp PP F.yi #[txt s,txt p] w λv w'=>Tells (p <+: s) v/\w'=w:=by
 have hs:=zBz s;have hp:=zBz p
 refine en TBok rfl ?_
 refine ite (λh1=>?_) (λh1=>⟨.f (λh=>?_),rfl⟩)
 ·refine rsslN (hi:=(⟨p.toArray⟩:ByteArray).size) rfl (by omega) ?_
  refine rseq (λh=>⟨.t ?_,rfl⟩) (λh=>⟨.f (λh2=>h ?_),rfl⟩)
  ·rw [zEj,hp] at h
   have:=zMG h
   rw [List.drop_zero,Nat.sub_zero] at this
   rw [<-this];exact List.take_prefix _ _
  ·obtain⟨t,rfl⟩:=h2
   rw [zEj,hp];simp
 ·have:=h.length_le;omega
theorem zBO{p:List UInt8}:Sp PP F.q7 #[txt s,txt p] w λv w'=>((p <+: s/\v=.tuple #[txt (s.drop p.length),.bool true])\/(¬p <+: s/\v=.tuple #[txt s,.bool false]))/\w'=w:=by
 have hs:=zBz s;have hp:=zBz p
 have hI:Sp PP F.yg #[txt s,txt p] w λv w'=>((p <+: s/\v=.tuple #[txt (s.drop p.length),.bool true])\/(¬p <+: s/\v=.tuple #[txt s,.bool false]))/\w'=w:=by
  refine en TBok rfl ?_
  refine rcall zEg ?_
  rintro _ _ ⟨⟨rfl,h1⟩|⟨rfl,h1⟩,rfl⟩
  ·have hl:=h1.length_le
   have e:(⟨s.toArray⟩:ByteArray).extract (⟨p.toArray⟩:ByteArray).size (⟨s.toArray⟩:ByteArray).size=⟨(s.drop p.length).toArray⟩:=by
    rw [hp,hs,zEj,<-List.length_drop,List.take_length]
   refine rsslL (lo:=(⟨p.toArray⟩:ByteArray).size) rfl (by omega) ?_
   exact⟨.inl ⟨h1,congrArg (λb=>Value.tuple #[.string b,.bool true]) e⟩,rfl⟩
  ·exact⟨.inr ⟨h1,rfl⟩,rfl⟩
 refine en TBok rfl ?_
 refine rcall hI ?_
 rintro _ _ ⟨⟨h1,rfl⟩|⟨h1,rfl⟩,rfl⟩
 ·exact⟨.inl ⟨h1,rfl⟩,rfl⟩
 ·exact⟨.inr ⟨h1,rfl⟩,rfl⟩
theorem zCo{bx be:Nat}:SpD PP F.qe #[.pointer (some ⟨bx,0,none⟩),.pointer (some ⟨be,0,none⟩)] .returning w λu' w'=>u'=.returning/\w'=w:=by
 refine SpD.enter TBok rfl rfl rfl rfl rfl rfl rfl (λ_ _=>rfl) rfl rfl ?_
 refine rtaN ?_
 exact⟨rfl,rfl,rfl⟩
theorem zCn{bx be:Nat}{x:RGr}{e:Int}(Bx:Bk w bx (enc x) E.qf)(Be:Bk w be [.int .i64 e] E.qk)(hne:¬be=bx):
  SpD PP F.qe #[.pointer (some ⟨bx,0,none⟩),.pointer (some ⟨be,0,none⟩)] (.panicking PanI) w λu' w'=>settle u'=.returning/\Bk w' bx (enc zGr) E.qf/\Bk w' be [.int .i64 30] E.qk/\Fr (λi=>i=bx\/i=be) w w':=by
 refine SpD.enter TBok rfl rfl rfl rfl rfl rfl rfl (λ_ _=>rfl) rfl rfl ?_
 refine rta (rbuild (cs:=enc zGr) rfl (rsto (B:=Bx) (vs:=enc zGr) rfl rfl rfl (Enc.one _) λw2 B2 f2 _=>rsto (B:=Be.fr f2 hne) (vs:=[.int .i64 30]) rfl rfl rfl (zAf _) λw3 B3 f3 _=>?_))
 exact⟨rfl,rfl,B2.fr f3 (λh=>hne h.symm),B3,(f2.mono λi _ hi=>.inl hi).trans (f3.mono λi _ hi=>.inr hi)⟩
theorem zGa{α:Type}{f:List UInt8->Option (α×List UInt8)}{P:α->Prop}(h:∀r x t,f r=some (x,t)->P x):∀(n:Nat) (r:List UInt8) (l:List α) (t:List UInt8),rdMany f n r=some (l,t)->l.length=n/\∀x∈l,P x
 |0,r,l,t,e=>by simp [rdMany] at e;obtain⟨rfl,_⟩:=e;simp
 |n+1,r,l,t,e=>by
  unfold rdMany at e
  cases hf:f r with
  |none=>rw [hf] at e;cases e
  |some p =>
   obtain⟨x,t1⟩:=p
   rw [hf] at e;dsimp only at e
   cases hm:rdMany f n t1 with
   |none=>rw [hm] at e;cases e
   |some q =>
    obtain⟨l1,t2⟩:=q
    rw [hm] at e;simp only [Option.some.injEq,Prod.mk.injEq] at e
    obtain⟨rfl,rfl⟩:=e
    have q_:=zGa h n t1 l1 _ hm
    obtain⟨h1,h2⟩:=q_
    refine⟨by simp [h1],λy hy=>?_⟩
    have q_:=List.mem_cons.1 hy
    rcases q_ with rfl|hy
    ·exact h _ _ _ hf
    ·exact h2 y hy
theorem zMk{r t:List UInt8}{x:List UInt8}(h:rdT r=some (x,t)):x.length<=4000:=by
 unfold rdT at h
 split at h
 ·split at h
  ·rename_i hc
   cases h;rw [List.length_take];omega
  ·cases h
 ·cases h
theorem zFQ{r t:List UInt8}{l:List Nat}(h:rdRow r=some (l,t)):l.length<=4000:=by
 unfold rdRow at h
 split at h
 ·split at h
  ·have:=(zGa (P:=λ_=>True) (λ_ _ _ _=>trivial) _ _ _ _ h).1;omega
  ·cases h
 ·cases h
theorem zEa{r t:List UInt8}{l:List (List UInt8)}(h:rdWs r=some (l,t)):l.length<=8/\∀x∈l,x.length<=4000:=by
 unfold rdWs at h
 split at h
 ·split at h
  ·have:=zGa (P:=λx:List UInt8=>x.length<=4000) (λ_ _ _ h=>zMk h) _ _ _ _ h
   exact⟨by omega,this.2⟩
  ·cases h
 ·cases h
abbrev PlSm (p:List Nat×List (List UInt8)):Prop:=p.1.length<=4000/\p.2.length<=8/\∀x∈p.2,x.length<=4000
theorem zCx{r t:List UInt8}{p:List Nat×List (List UInt8)}(h:rdPl r=some (p,t)):PlSm p:=by
 unfold rdPl at h
 split at h
 ·rename_i l t1 h1
  split at h
  ·rename_i ws u h2
   cases h
   exact⟨zFQ h1,(zEa h2).1,(zEa h2).2⟩
  ·cases h
 ·cases h
theorem zER:∀(rs:List (List Nat)) (v:Nat),(∀l∈rs,l.length<=4000)->(edsOf v rs).length<=rs.length*4000
 |[],_,_=>by simp [edsOf]
 |l::rs,v,h=>by
  have h1:=h l List.mem_cons_self
  have h2:=zER rs (v+1) λl hl=>h l (List.mem_cons_of_mem _ hl)
  rw [edsOf,List.length_append,List.length_map,List.length_cons]
  omega
def RowsO (B:Nat) (w:World) (vs:List SV) (ls:List (List ByteArray)):Prop:=vs.length=ls.length/\∀i (h:i<vs.length) (h':i<ls.length),Own B E.qg w vs[i].v ls[i]
theorem RowsO.v{vs:List SV}{ls:List (List ByteArray)}(h:RowsO B w vs ls):RowsV w vs ls:=⟨h.1,λi h1 h2=>(h.2 i h1 h2).sl⟩
theorem RowsO.up[Le w w']{vs:List SV}{ls:List (List ByteArray)}(h:RowsO B w vs ls):RowsO B w' vs ls:=⟨h.1,λi h1 h2=>(h.2 i h1 h2).up⟩
theorem RowsO.frc{e':TypeId}{vs:List SV}{ls:List (List ByteArray)}{b:Nat}{cs:List Value}(h:RowsO B w vs ls)(f:Fr (λi=>i=b) w w')(k:Bk w b cs e')(hne:E.qg≠e'):RowsO B w' vs ls:=⟨h.1,λi h1 h2=>(h.2 i h1 h2).frc f k hne⟩
theorem RowsO.fro{β:Type}[Enc β]{C:Nat}{e':TypeId}{v':Value}{l':List β}{vs:List SV}{ls:List (List ByteArray)}(h:RowsO B w vs ls)(k:Own C e' w v' l')(f:Fr (ownD C v') w w')(hne:E.qg≠e'):RowsO B w' vs ls:=⟨h.1,λi h1 h2=>(h.2 i h1 h2).fro k f hne⟩
theorem RowsO.add{vs:List SV}{ls:List (List ByteArray)}(h:RowsO B w vs ls){v:SV}{l:List ByteArray}(O:Own B E.qg w v.v l):RowsO B w (vs++[v]) (ls++[l]):=by
 refine⟨by simp [h.1],λi h1 h2=>?_⟩
 have hl:=h.1
 rw [List.getElem_append,List.getElem_append]
 by_cases hi:i<vs.length
 ·rw [dif_pos hi,dif_pos (by omega)];exact h.2 i hi (by omega)
 ·rw [dif_neg hi,dif_neg (by omega)]
  simp only [List.getElem_singleton];exact O
abbrev rowsOf (ps:List (List Nat×List (List UInt8))):List (List Nat):=ps.map λp=>p.1
abbrev ImgT (s:List UInt8) (w:World) (v:Value) (w':World):Prop:=
 ((∃g x vs,imgOf s=some g/\v=.tuple #[agg x,.int .i64 0]/\GrV w' x g vs)\/(imgOf s=none/\v=.tuple #[agg zGr,.int .i64 30]))/\Stp w w'
structure PaJ (w:World) (s:List UInt8) (bg be br N:Nat) (u:World) (es:List EdN) (A:Nat) (ea:Option Addr) (ec:Nat) (wa:Option Addr) (wc:Nat) (vs:List SV) (ws:List (List ByteArray)):Prop where
 rd:ImB u br s A
 g:Bk u bg [.int .i64 (N:Int),.slice ea es.length ec,.slice wa vs.length wc] E.qf
 e:Bk u be [.int .i64 0] E.qk
 es:Own w.heap.size E.qr u (.slice ea es.length ec) es
 wo:Own w.heap.size E.yc u (.slice wa vs.length wc) vs
 rows:RowsO w.heap.size u vs ws
 st:Stp w u
abbrev wdsOf (ps:List (List Nat×List (List UInt8))):List (List ByteArray):=ps.map λp=>p.2.map bsOf
structure ParI (w:World) (s:List UInt8) (bg be br N A1 k:Nat) (u:World) (es:List EdN) (ps:List (List Nat×List (List UInt8))) (A:Nat) (ea:Option Addr) (ec:Nat) (wa:Option Addr) (wc:Nat) (vs:List SV):Prop extends PaJ w s bg be br N u es A ea ec wa wc vs (wdsOf ps) where
 len:ps.length=k
 at':A<=s.length
 pre:preR ps (rdMany rdPl (N - k) (s.drop A))=rdMany rdPl N (s.drop A1)
 sm:∀p∈ps,PlSm p
section
variable {w:World} {s:List UInt8} {bg be br N:Nat} {u u':World} {es:List EdN} {A:Nat} {ea:Option Addr} {ec:Nat} {wa:Option Addr} {wc:Nat} {vs:List SV} {ws:List (List ByteArray)}
theorem PaJ.up[Le u u'][Stp u u'](J:PaJ w s bg be br N u es A ea ec wa wc vs ws):PaJ w s bg be br N u' es A ea ec wa wc vs ws:=
 ⟨J.rd.mv,J.g.mv,J.e.mv,J.es.up,J.wo.up,J.rows.up,⟨J.st.e.t (Le.e (a:=u) (b:=u'))⟩⟩
theorem PaJ.read{A':Nat}(J:PaJ w s bg be br N u es A ea ec wa wc vs ws)(f:Fr (λi=>i=br) u u')(R:ImB u' br s A')(h1:¬bg=br)(h2:¬be=br)(h3:w.heap.size<=br):PaJ w s bg be br N u' es A' ea ec wa wc vs ws:=
 ⟨R,J.g.fr f h1,J.e.fr f h2,J.es.frc f J.rd (by decide),J.wo.frc f J.rd (by decide),J.rows.frc f J.rd (by decide),⟨Fr.st J.st.e f λi hi=>hi ▸ h3⟩⟩
end
theorem sv1(e:Option Addr)(n m:Nat):∀u∈[Value.slice e n m],u.oneCell'=true:=by intro u hu;simp at hu;subst hu;rfl
theorem panQ{rs:List ResultVar}{F:Nat->Value}{D0:Value}{c:List PanicEntry}{R:Value->World->Prop}{pn:List PanicEntry->World->Prop}{d:Deferred}{ds:List Deferred}(h0:F 4294967296=D0)(hd:decD D0=d::ds)
  (h:LeaveS P rs F (d::ds) (.panicking c) R pn w):panS P rs R pn F c w:=by
 unfold panS
 rw [h0,hd]
 exact h
theorem zNa{r:List UInt8}(h:rdRow r=none):rdPl r=none:=by unfold rdPl;rw [h]
theorem zCO{r t:List UInt8}{l:List Nat}(h:rdRow r=some (l,t))(h2:rdWs t=none):rdPl r=none:=by unfold rdPl;rw [h];dsimp only;rw [h2]
theorem zFq{r t u:List UInt8}{l:List Nat}{ws:List (List UInt8)}(h:rdRow r=some (l,t))(h2:rdWs t=some (ws,u)):rdPl r=some ((l,ws),u):=by unfold rdPl;rw [h];dsimp only;rw [h2]
theorem zK1{r:List UInt8}(h:rdN r=none):rdWs r=none:=by unfold rdWs;rw [h]
theorem rdWs_n{r t:List UInt8}(h:rdN r=some (n,t)):rdWs r=if n<=8 then rdMany rdT n t else none:=by unfold rdWs;rw [h]
theorem rdI_eq{r:List UInt8}(h:s=119::103::r):rdI s=match rdN r with
  |some (n,t)=>if n<=200 then (match rdMany rdPl n t with|some (ps,u)=>some (n,ps,u)|none=>none) else none
  |none=>none:=by subst h;rfl
theorem img_no(h:rdI s=none):imgOf s=none:=by unfold imgOf;rw [h]
theorem zN9(h:¬[119,103] <+: s):rdI s=none:=by
 unfold rdI
 split
 ·rename_i r;exact absurd ⟨r,rfl⟩ h
 ·rfl
theorem zDq{s0:List UInt8}(hs0:s0.length<=4611686018427387904):Sp PP F.cd #[txt s0] w (ImgT s0 w):=by
 refine en TBok rfl ?_
 refine ral λbg w1 n1 z1=>ral λbe w2 n2 z2=>?_
 have hbg:=n1.b;have hsg:=n1.s;have hbe:=n2.b;have hse:=n2.s
 have X2:Bk w2 bg (enc zGr) E.qf:=z1.mv
 have E2:Bk w2 be [.int .i64 0] E.qk:=z2
 have z02:=Le.size (a:=w) (b:=w2)
 have hne:¬be=bg:=by omega
 have nbg:∀i,i=bg->w.heap.size<=i:=by omega
 have pan:∀{G:Nat->Value} {u:World} {x:RGr},Bk u bg (enc x) E.qf->Bk u be [.int .i64 0] E.qk->Stp w u->imgOf s0=none->ev G (.tmp 2)=.pointer (some ⟨bg,0,none⟩)->ev G (.tmp 3)=.pointer (some ⟨be,0,none⟩) ->
   LeaveS PP Tryz.f9.results.toList G [{ target:=.fn (.func F.qe) #[.pointer (some ⟨bg,0,none⟩),.pointer (some ⟨be,0,none⟩)],args:=#[] }] (.panicking PanI) (ImgT s0 w) (λ_ _=>False) u:=by
  intro G u x X E' e hno g4 g5
  refine zBm (by simp) ⟨(zCn X E' hne).can,zAK (zCn X E' hne).calls ?_⟩
  intro en u' w' he
  cases en with
  |returned v =>
   obtain⟨h1,X',E',f'⟩:=he
   show LeaveS PP _ _ [] (settle u') _ _ w'
   rw [h1]
   refine leave_ret ?_
   show resS PP [.cell 2 _,.cell 3 _] [] G _ w'
   simp only [resS,g4,g5]
   refine rresG (B:=X') rfl ?_
   refine rres (B:=E') rfl ?_
   exact⟨.inr ⟨hno,rfl⟩,⟨Fr.st e.e f' λi hi=>by omega⟩⟩
  |panicked c=>exact he
  |outgrown=>exact he
 by_cases hp:[119,103] <+: s0
 case neg =>
  refine rcall (zBO (s:=s0) (p:=[119,103])) ?_
  rintro _ _ ⟨⟨hp',rfl⟩|⟨_,rfl⟩,rfl⟩
  ·exact absurd hp' hp
  refine rmki (rpanic ?_)
  exact pan X2 E2 stp (img_no (zN9 hp)) rfl rfl
 obtain⟨s,rfl⟩:=hp
 have hCut:Sp PP F.q7 #[txt ([119,103]++s),txt [119,103]] w2 λv w'=>v=.tuple #[txt s,.bool true]/\w'=w2:=(zBO (s:=[119,103]++s) (p:=[119,103])).mono λv w' h=>by
  rcases h with ⟨⟨_,h1⟩|⟨h1,_⟩,h2⟩
  ·exact⟨h1,h2⟩
  ·exact absurd ⟨s,rfl⟩ h1
 refine rcall hCut ?_
 rintro _ _ ⟨rfl,rfl⟩
 have hs:s.length<=4611686018427387904:=by simp at hs0;omega
 have hI:=rdI_eq (s:=[119,103]++s) (r:=s) rfl
 refine rbuild (cs:=[txt s,.int .i64 0]) rfl (rbx λbr w3 n3 B3=>?_)
 have hbr:=n3.b
 have R3:ImB w3 br s 0:=B3
 clear B3
 have nbr:∀i,i=br->w.heap.size<=i:=by omega
 have ngr:¬bg=br:=by omega
 have ner:¬be=br:=by omega
 have X3:=X2.mv (w:=w3);have E3:=E2.mv (w:=w3)
 refine rcallP (zAV R3 hs) ?_ ?_
 case' refine_2 =>
  rintro _ w4 ⟨rfl,hno,f4⟩
  have s4:Stp w w4:=⟨Fr.st Le.e f4 nbr⟩
  rw [List.drop_zero] at hno
  rw [hno] at hI
  exact pan (X3.fr f4 ngr) (E3.fr f4 ner) s4 (img_no hI) rfl rfl
 rintro _ w4 ⟨N,A1,hr,rfl,R4,f4⟩
 have s4:Stp w w4:=⟨Fr.st Le.e f4 nbr⟩
 have hrn:=hr.2
 rw [List.drop_zero] at hrn
 rw [hrn] at hI
 have X4:=X3.fr f4 ngr;have E4:=E3.fr f4 ner
 refine rsto (B:=X4) (vs:=[.int .i64 (N:Int)]) rfl rfl rfl (zAf _) λw5 X5 f5 _=>?_
 have X5:Bk w5 bg [.int .i64 (N:Int),.slice none 0 0,.slice none 0 0] E.qf:=X5
 have s5:Stp w w5:=⟨Fr.st s4.e f5 nbg⟩
 have E5:=E4.fr f5 hne
 have R5:=R4.fr f5 (λh=>ngr h.symm)
 refine rld (B:=X5) rfl (ite (λh200=>?_) (λh200=>?_))
 ·refine rmki (rpanic ?_)
  exact pan (x:=⟨N,⟨none,0,0⟩,⟨none,0,0⟩⟩) X5 E5 s5 (img_no (by rw [hI];exact if_neg (by omega))) rfl rfl
 have hI2:rdI ([119,103]++s)=match rdMany rdPl N (s.drop A1) with|some (ps,u)=>some (N,ps,u)|none=>none:=hI.trans (if_pos (by omega))
 clear hI
 refine rld (B:=X5) rfl ?_
 refine cnt TBok 31 [7,9] 31 N (λk u=>∃ps A ea ec wa wc vs,ParI w s bg be br N A1 k u (edsOf 0 (rowsOf ps)) ps A ea ec wa wc vs) rfl rfl
  ⟨([]:List (List Nat×List (List UInt8))),A1,none,0,none,0,[],⟨R5,X5,E5,Own.nil _ _ _,Own.nil _ _ _,⟨rfl,λi h=>absurd h (by simp)⟩,s5⟩,rfl,hr.1,by rw [zD8,Nat.sub_zero],by simp⟩ ?_
 rintro k gf u hk ⟨ps,A,ea,ec,wa,wc,vs,J⟩
 have hvl:=J.rows.1
 rw [List.length_map,J.len] at hvl
 refine ite (λhlt=>?_) (λhge=>?_)
 case' refine_2 =>
  have q_:k=N:=by omega
  obtain rfl:=q_
  have hd:rdMany rdPl k (s.drop A1)=some (ps,s.drop A):=by rw [<-J.pre,Nat.sub_self];simp [rdMany,preR]
  rw [hd] at hI2
  have hlen:=zER (rowsOf ps) 0 (by intro l hl;obtain⟨p,hp,rfl⟩:=List.mem_map.1 hl;exact(J.sm p hp).1)
  rw [List.length_map,J.len] at hlen
  have V:GrV u ⟨k,⟨ea,(edsOf 0 (rowsOf ps)).length,ec⟩,⟨wa,vs.length,wc⟩⟩ (grOf k ps) vs:=⟨rfl,J.es.sl,J.wo.sl,J.rows.v,⟨by show (edsOf 0 (rowsOf ps)).length<=1000000;omega,by omega,λl hl=>by obtain⟨p,hp,rfl⟩:=List.mem_map.1 hl;have:=(J.sm p hp).2.1;simp;omega⟩,λl hl x hx=>by
   have q_:=List.mem_map.1 hl
   obtain⟨p,hp,rfl⟩:=q_
   have q_:=List.mem_map.1 hx
   obtain⟨y,hy,rfl⟩:=q_
   have:=(J.sm p hp).2.2 y hy
   have h2:=zBz y
   show (⟨y.toArray⟩:ByteArray).size<=_
   omega⟩
  have hz:=zBz s
  have JR:=J.rd;have JG:=J.g;have JE:=J.e;have Js:=J.st
  refine rld (B:=JR) rfl (ite (λh1=>?_) (λh1=>?_))
  ·refine rmki (rpanic ?_)
   refine pan (x:=⟨k,⟨ea,(edsOf 0 (rowsOf ps)).length,ec⟩,⟨wa,vs.length,wc⟩⟩) JG JE Js ?_ rfl rfl
   unfold imgOf;rw [hI2];dsimp only
   rw [if_neg]
   rintro⟨h2,_⟩
   have:=congrArg List.length h2
   rw [List.length_drop] at this;simp at this
   have:=J.at'
   omega
  have hA:s.drop A=[]:=by rw [List.drop_eq_nil_iff];omega
  refine rldG (ds:=enc (⟨k,⟨ea,(edsOf 0 (rowsOf ps)).length,ec⟩,⟨wa,vs.length,wc⟩⟩:RGr)) (B:=JG) rfl rfl (rcall (zDh V) ?_)
  rintro _ u2 ⟨⟨rfl,hg⟩|⟨rfl,hg⟩,e2⟩
  ·have G2:=JG.mv (w:=u2);have E2':=JE.mv (w:=u2)
   refine rldG (ds:=enc (⟨k,⟨ea,(edsOf 0 (rowsOf ps)).length,ec⟩,⟨wa,vs.length,wc⟩⟩:RGr)) (B:=G2) rfl rfl (rsto (B:=G2) (vs:=enc (⟨k,⟨ea,(edsOf 0 (rowsOf ps)).length,ec⟩,⟨wa,vs.length,wc⟩⟩:RGr)) rfl rfl rfl (Enc.one _) λu3 X6 f6 _=>?_)
   have X6:Bk u3 bg (enc (⟨k,⟨ea,(edsOf 0 (rowsOf ps)).length,ec⟩,⟨wa,vs.length,wc⟩⟩:RGr)) E.qf:=X6
   have E6:=E2'.fr f6 hne
   refine rsto (B:=E6) (vs:=[.int .i64 0]) rfl rfl rfl (zAf _) λu4 E7 f7 _=>?_
   have X7:=X6.fr f7 (λh=>hne h.symm)
   have s7:Stp w u4:=⟨Fr.st (Fr.st (Js.e.t e2.e) f6 nbg) f7 λi hi=>by omega⟩
   have O7:=((J.es.up (w':=u2)).frc f6 G2 (by decide)).frc f7 E6 (by decide)
   have W7:=((J.wo.up (w':=u2)).frc f6 G2 (by decide)).frc f7 E6 (by decide)
   have Q7:=((J.rows.up (w':=u2)).frc f6 G2 (by decide)).frc f7 E6 (by decide)
   refine zBm (by simp) ⟨(zCo (bx:=bg) (be:=be) (w:=u4)).can,zAK (zCo (bx:=bg) (be:=be) (w:=u4)).calls ?_⟩
   intro en u' w' hh
   cases en with
   |returned v =>
    obtain⟨rfl,rfl⟩:=hh
    refine leave_ret ?_
    refine rresG (B:=X7) rfl ?_
    refine rres (B:=E7) rfl ?_
    refine⟨.inl ⟨grOf k ps,_,vs,?_,rfl,⟨rfl,O7.sl,W7.sl,Q7.v,V.small,V.words⟩⟩,s7⟩
    unfold imgOf;rw [hI2];dsimp only
    rw [if_pos ⟨hA,hg⟩]
   |panicked c=>exact hh
   |outgrown=>exact hh
  ·refine rmki (rpanic ?_)
   refine pan (x:=⟨k,⟨ea,(edsOf 0 (rowsOf ps)).length,ec⟩,⟨wa,vs.length,wc⟩⟩) (JG.mv (w:=u2)) (JE.mv (w:=u2)) ⟨Js.e.t e2.e⟩ ?_ rfl rfl
   unfold imgOf;rw [hI2];dsimp only
   rw [if_neg]
   exact λh=>hg h.2
 have hkn:N - k=(N - (k+1))+1:=by omega
 have hbad:rdPl (s.drop A)=none->imgOf ([119,103]++s)=none:=λh=>img_no (hI2.trans (by rw [<-J.pre,hkn,zCc h];rfl))
 have J0:=J.toPaJ
 have hpre:=J.pre;have hsm:=J.sm;have hpsl:=J.len
 refine rcallP (zEG J.rd hs) ?_ ?_
 case' refine_2 =>
  rintro _ u1 ⟨rfl,hno,f1⟩
  have J1g:=J.g.fr f1 ngr;have J1e:=J.e.fr f1 ner
  exact pan (x:=⟨N,⟨ea,(edsOf 0 (rowsOf ps)).length,ec⟩,⟨wa,vs.length,wc⟩⟩) J1g J1e ⟨Fr.st J.st.e f1 nbr⟩ (hbad (zNa hno)) rfl rfl
 rintro v1 u1 ⟨l,A2,hr2,O1,B1,f1⟩
 have J1:=J0.read f1 B1 ngr ner (by omega)
 have hl4:=zFQ hr2.2
 have hed:=zER (rowsOf ps) 0 (by intro l hl;obtain⟨p,hp,rfl⟩:=List.mem_map.1 hl;exact(J.sm p hp).1)
 rw [List.length_map,J.len] at hed
 have hu1:=Nat.le_trans J.st.e.size (Nat.le_refl _)
 have O1:=O1.mono hu1
 have q_:=O1.shape
 obtain⟨ra,rc,rfl⟩:=q_
 have hil:(intsN l).length=l.length:=by simp [intsN]
 refine cnt TBok 37 [9] 37 (intsN l).length (λj u'=>∃ea ec,PaJ w s bg be br N u' (edsOf 0 (rowsOf ps)++(l.take j).map λt=>⟨k,t⟩) A2 ea ec wa wc vs (wdsOf ps)/\Own w.heap.size E.qa u' (.slice ra (intsN l).length rc) (intsN l)) rfl rfl
  ⟨ea,ec,by simpa using J1,O1⟩ ?_
 rintro j gf2 u2 hj ⟨ea2,ec2,J2,O2⟩
 refine ite (λhlt2=>?_) (λhge2=>?_)
 case' refine_1 =>
  have hjl:j<l.length:=by omega
  have J2g:=J2.g
  have hel:(edsOf 0 (rowsOf ps)++(l.take j).map λt=>(⟨k,t⟩:EdN)).length<=1000000:=by rw [List.length_append,List.length_map,List.length_take];omega
  refine rix O2.sl (x:=(l[j]:Int)) (by simp [intsN,hjl]) λb4 o4 A4=>rload1 (A4.cell0 rfl) (rld (B:=J2g) rfl (rbuild (cs:=enc (⟨k,l[j]⟩:EdN)) rfl (rbs1 (α:=EdN) ⟨k,l[j]⟩ rfl rfl (by decide) λb5 u5 e5 _ S5=>?_)))
  have s2:=J2.st
  have J5:=J2.up (u':=u5)
  have J5g:=J5.g
  refine rapp1 (u:=w) ⟨rfl,rfl⟩ J5.es S5 (by omega) λv6 u6 O6 f6 s6=>?_
  have G6:=J5g.fro J5.es f6 (by decide)
  have hes:edsOf 0 (rowsOf ps)++(l.take (j+1)).map (λt=>(⟨k,t⟩:EdN))=(edsOf 0 (rowsOf ps)++(l.take j).map λt=>(⟨k,t⟩:EdN))++[⟨k,l[j]⟩]:=by rw [zAa hjl,List.map_append,List.append_assoc];rfl
  rw [<-hes] at O6
  have q_:=O6.shape
  obtain⟨a6,c6,rfl⟩:=q_
  refine rsto (B:=G6) (vs:=[.slice a6 (edsOf 0 (rowsOf ps)++(l.take (j+1)).map λt=>(⟨k,t⟩:EdN)).length c6]) rfl rfl rfl (sv1 _ _ _) λu7 G7 f7 _=>?_
  have J7:PaJ w s bg be br N u7 (edsOf 0 (rowsOf ps)++(l.take (j+1)).map λt=>(⟨k,t⟩:EdN)) A2 a6 c6 wa wc vs (wdsOf ps):=
   ⟨(J5.rd.fro J5.es f6 (by decide)).fr f7 (λh=>ngr h.symm),G7,(J5.e.fro J5.es f6 (by decide)).fr f7 hne,O6.frc f7 G6 (by decide),(J5.wo.fro J5.es f6 (by decide)).frc f7 G6 (by decide),(J5.rows.fro J5.es f6 (by decide)).frc f7 G6 (by decide),⟨Fr.st (Le.e (a:=w) (b:=u6)) f7 nbg⟩⟩
  have O7:=((O2.up (w':=u5)).fro J5.es f6 (by decide)).frc f7 G6 (by decide)
  exact rA ⟨rfl,by omega,a6,c6,J7,O7⟩
 have q_:j=(intsN l).length:=by omega
 obtain rfl:=q_
 rw [hil,List.take_length] at J2
 have hel:(edsOf 0 (rowsOf ps)++l.map λt=>(⟨k,t⟩:EdN))=edsOf 0 (rowsOf ps++[l]):=by rw [zGz,Nat.zero_add,List.length_map,J.len]
 rw [hel] at J2
 clear J0 J1
 refine drawRT TBok mixed (λ_=>True) (.one 0 (.one 2 (.one 3 (.duo 1 (.one 4 (.one 5 (.one 6 (.one 7 (.one 8 (.one 9 .nil)))))) 4 (.duo 1 (.one 5 (.one 6 (.one 7 (.one 8 (.one 9 .nil))))) 5 (.duo 1 (.one 6 (.one 7 (.one 8 (.one 9 .nil)))) 6 (.lone 1 (.one 7 (.one 8 (.one 9 .nil)))))))))) (by kernel_rfl) λu3 e3 _=>?_
 have J3:=J2.up (u':=u3)
 have hbrw:w.heap.size<=br:=by omega
 have hvs:vs.length<=200:=by omega
 clear J2 J R5 X5 E5 E4 X4 R4 E3 X3 R3 X2 E2
 refine⟨?_,?_⟩
 ·have J3g:=J3.g
  refine rld (B:=J3g) rfl ⟨Fr.refl _ _,?_⟩
  have NS:=zAV J3.rd hs
  refine rcallP NS ?_ ?_
  case' refine_2 =>
   rintro _ u4 ⟨rfl,hno,f4'⟩
   have J4g:=J3.g.fr f4' ngr;have J4e:=J3.e.fr f4' ner
   intro F' ag
   show panS PP Tryz.f9.results.toList (ImgT ([119,103]++s) w) (λ_ _=>False) F' PanI _
   refine panQ (ag 4294967296 rfl) (d:={ target:=.fn (.func F.qe) #[.pointer (some ⟨bg,0,none⟩),.pointer (some ⟨be,0,none⟩)],args:=#[] }) (ds:=[]) rfl ?_
   exact pan (x:=⟨N,⟨ea2,(edsOf 0 (rowsOf ps++[l])).length,ec2⟩,⟨wa,vs.length,wc⟩⟩) J4g J4e ⟨Fr.st J3.st.e f4' nbr⟩ (hbad (zCO hr2.2 (zK1 hno))) (ag 2 rfl) (ag 3 rfl)
  rintro _ u4 ⟨n1,A3,hr3,rfl,R4,f4'⟩
  refine⟨Fr.mono f4' λ_ _ _=>trivial,?_⟩
  have J4:=J3.read f4' R4 ngr ner hbrw
  have hW:=rdWs_n hr3.2
  have SS:=zAP (n:=n1) J4.rd hr3.1 hs
  refine rcallP SS ?_ ?_
  case' refine_2 =>
   rintro _ u5 ⟨rfl,hno,f5'⟩
   have J5g:=J4.g.fr f5' ngr;have J5e:=J4.e.fr f5' ner
   intro F' ag
   show panS PP Tryz.f9.results.toList (ImgT ([119,103]++s) w) (λ_ _=>False) F' PanI _
   refine panQ (ag 4294967296 rfl) (d:={ target:=.fn (.func F.qe) #[.pointer (some ⟨bg,0,none⟩),.pointer (some ⟨be,0,none⟩)],args:=#[] }) (ds:=[]) rfl ?_
   exact pan (x:=⟨N,⟨ea2,(edsOf 0 (rowsOf ps++[l])).length,ec2⟩,⟨wa,vs.length,wc⟩⟩) J5g J5e ⟨Fr.st J4.st.e f5' nbr⟩ (hbad (zCO hr2.2 (by rw [hW];split;exact hno (by assumption);rfl))) (ag 2 rfl) (ag 3 rfl)
  rintro _ u5 ⟨ws,A4,hn8,hr4,O5,R5,f5'⟩
  refine⟨Fr.mono f5' λ_ _ _=>trivial,?_⟩
  have J5:=J4.read f5' R5 ngr ner hbrw
  have O5:=O5.mono J4.st.e.size
  have q5:=O5.shape
  obtain⟨sa,sc,rfl⟩:=q5
  refine rbs1 (⟨sa,(ws.map bsOf).length,sc⟩:SV) rfl rfl (by decide) λb6 u6 e6 _ S6=>⟨Fr.mono e6.e λ_ _ _=>trivial,?_⟩
  have J6:=J5.up (u':=u6)
  have s6:=J6.st
  have J6g:=J6.g
  refine rapp1 (u:=w) ⟨rfl,rfl⟩ J6.wo S6 (by omega) λv7 u7 O7 f7 s7=>⟨Fr.mono f7 λ_ _ _=>trivial,?_⟩
  have G7:=J6g.fro J6.wo f7 (by decide)
  have q7:=O7.shape
  obtain⟨a7,c7,rfl⟩:=q7
  refine rsto (B:=G7) (vs:=[.slice a7 (vs++[(⟨sa,(ws.map bsOf).length,sc⟩:SV)]).length c7]) rfl rfl rfl (sv1 _ _ _) λu8 G8 f8 _=>⟨Fr.mono f8 λ_ _ _=>trivial,?_⟩
  have O5':=(((O5.up (w':=u6)).fro J6.wo f7 (by decide)).frc f8 G7 (by decide))
  have hpl:=zFq hr2.2 (show rdWs (s.drop A2)=some (ws,s.drop A4) by rw [hW,if_pos hn8];exact hr4.2)
  have e1:rowsOf (ps++[(l,ws)])=rowsOf ps++[l]:=by simp [rowsOf]
  have e2:wdsOf (ps++[(l,ws)])=wdsOf ps++[ws.map bsOf]:=by simp [wdsOf]
  have J8:PaJ w s bg be br N u8 (edsOf 0 (rowsOf (ps++[(l,ws)]))) A4 ea2 ec2 a7 c7 (vs++[(⟨sa,(ws.map bsOf).length,sc⟩:SV)]) (wdsOf (ps++[(l,ws)])):=by
   rw [e1,e2]
   exact⟨(J6.rd.fro J6.wo f7 (by decide)).fr f8 (λh=>ngr h.symm),G8,(J6.e.fro J6.wo f7 (by decide)).fr f8 hne,(J6.es.fro J6.wo f7 (by decide)).frc f8 G7 (by decide),O7.frc f8 G7 (by decide),RowsO.add ((J6.rows.fro J6.wo f7 (by decide)).frc f8 G7 (by decide)) O5',⟨Fr.st (Le.e (a:=w) (b:=u7)) f8 nbg⟩⟩
  refine rA ⟨rfl,by omega,ps++[(l,ws)],A4,ea2,ec2,a7,c7,vs++[(⟨sa,(ws.map bsOf).length,sc⟩:SV)],J8,?_,hr4.1,?_,?_⟩
  ·rw [List.length_append,hpsl];rfl
  ·rw [<-hpre,hkn,zAS hpl]
  ·intro p hp
   have q_:=List.mem_append.1 hp
   rcases q_ with hp|hp
   ·exact hsm p hp
   ·rw [List.mem_singleton.1 hp];exact zCx hpl
 have NS:=zAV J3.rd hs
 refine rcallP NS ?_ ?_
 case' refine_2 =>
  rintro _ u4 ⟨rfl,hno,f4'⟩
  have J4g:=J3.g.fr f4' ngr;have J4e:=J3.e.fr f4' ner
  intro F' ag
  show panS PP Tryz.f9.results.toList (ImgT ([119,103]++s) w) (λ_ _=>False) F' PanI _
  refine panQ (ag 4294967296 rfl) (d:={ target:=.fn (.func F.qe) #[.pointer (some ⟨bg,0,none⟩),.pointer (some ⟨be,0,none⟩)],args:=#[] }) (ds:=[]) rfl ?_
  exact pan (x:=⟨N,⟨ea2,(edsOf 0 (rowsOf ps++[l])).length,ec2⟩,⟨wa,vs.length,wc⟩⟩) J4g J4e ⟨Fr.st J3.st.e f4' nbr⟩ (hbad (zCO hr2.2 (zK1 hno))) (ag 2 rfl) (ag 3 rfl)
 rintro _ u4 ⟨n1,A3,hr3,rfl,R4,f4'⟩
 refine⟨Fr.mono f4' λ_ _ _=>trivial,?_⟩
 have J4:=J3.read f4' R4 ngr ner hbrw
 have hW:=rdWs_n hr3.2
 refine⟨?_,?_⟩
 ·have J4g:=J4.g
  refine rld (B:=J4g) rfl ⟨Fr.refl _ _,?_⟩
  have SS:=zAP (n:=n1) J4.rd hr3.1 hs
  refine rcallP SS ?_ ?_
  case' refine_2 =>
   rintro _ u5 ⟨rfl,hno,f5'⟩
   have J5g:=J4.g.fr f5' ngr;have J5e:=J4.e.fr f5' ner
   intro F' ag
   show panS PP Tryz.f9.results.toList (ImgT ([119,103]++s) w) (λ_ _=>False) F' PanI _
   refine panQ (ag 4294967296 rfl) (d:={ target:=.fn (.func F.qe) #[.pointer (some ⟨bg,0,none⟩),.pointer (some ⟨be,0,none⟩)],args:=#[] }) (ds:=[]) rfl ?_
   exact pan (x:=⟨N,⟨ea2,(edsOf 0 (rowsOf ps++[l])).length,ec2⟩,⟨wa,vs.length,wc⟩⟩) J5g J5e ⟨Fr.st J4.st.e f5' nbr⟩ (hbad (zCO hr2.2 (by rw [hW];split;exact hno (by assumption);rfl))) (ag 2 rfl) (ag 3 rfl)
  rintro _ u5 ⟨ws,A4,hn8,hr4,O5,R5,f5'⟩
  refine⟨Fr.mono f5' λ_ _ _=>trivial,?_⟩
  have J5:=J4.read f5' R5 ngr ner hbrw
  have O5:=O5.mono J4.st.e.size
  have q5:=O5.shape
  obtain⟨sa,sc,rfl⟩:=q5
  refine rbs1 (⟨sa,(ws.map bsOf).length,sc⟩:SV) rfl rfl (by decide) λb6 u6 e6 _ S6=>⟨Fr.mono e6.e λ_ _ _=>trivial,?_⟩
  have J6:=J5.up (u':=u6)
  have s6:=J6.st
  have J6g:=J6.g
  refine rapp1 (u:=w) ⟨rfl,rfl⟩ J6.wo S6 (by omega) λv7 u7 O7 f7 s7=>⟨Fr.mono f7 λ_ _ _=>trivial,?_⟩
  have G7:=J6g.fro J6.wo f7 (by decide)
  have q7:=O7.shape
  obtain⟨a7,c7,rfl⟩:=q7
  refine rsto (B:=G7) (vs:=[.slice a7 (vs++[(⟨sa,(ws.map bsOf).length,sc⟩:SV)]).length c7]) rfl rfl rfl (sv1 _ _ _) λu8 G8 f8 _=>⟨Fr.mono f8 λ_ _ _=>trivial,?_⟩
  have O5':=(((O5.up (w':=u6)).fro J6.wo f7 (by decide)).frc f8 G7 (by decide))
  have hpl:=zFq hr2.2 (show rdWs (s.drop A2)=some (ws,s.drop A4) by rw [hW,if_pos hn8];exact hr4.2)
  have e1:rowsOf (ps++[(l,ws)])=rowsOf ps++[l]:=by simp [rowsOf]
  have e2:wdsOf (ps++[(l,ws)])=wdsOf ps++[ws.map bsOf]:=by simp [wdsOf]
  have J8:PaJ w s bg be br N u8 (edsOf 0 (rowsOf (ps++[(l,ws)]))) A4 ea2 ec2 a7 c7 (vs++[(⟨sa,(ws.map bsOf).length,sc⟩:SV)]) (wdsOf (ps++[(l,ws)])):=by
   rw [e1,e2]
   exact⟨(J6.rd.fro J6.wo f7 (by decide)).fr f8 (λh=>ngr h.symm),G8,(J6.e.fro J6.wo f7 (by decide)).fr f8 hne,(J6.es.fro J6.wo f7 (by decide)).frc f8 G7 (by decide),O7.frc f8 G7 (by decide),RowsO.add ((J6.rows.fro J6.wo f7 (by decide)).frc f8 G7 (by decide)) O5',⟨Fr.st (Le.e (a:=w) (b:=u7)) f8 nbg⟩⟩
  refine rA ⟨rfl,by omega,ps++[(l,ws)],A4,ea2,ec2,a7,c7,vs++[(⟨sa,(ws.map bsOf).length,sc⟩:SV)],J8,?_,hr4.1,?_,?_⟩
  ·rw [List.length_append,hpsl];rfl
  ·rw [<-hpre,hkn,zAS hpl]
  ·intro p hp
   have q_:=List.mem_append.1 hp
   rcases q_ with hp|hp
   ·exact hsm p hp
   ·rw [List.mem_singleton.1 hp];exact zCx hpl
 have SS:=zAP (n:=n1) J4.rd hr3.1 hs
 refine rcallP SS ?_ ?_
 case' refine_2 =>
  rintro _ u5 ⟨rfl,hno,f5'⟩
  have J5g:=J4.g.fr f5' ngr;have J5e:=J4.e.fr f5' ner
  intro F' ag
  show panS PP Tryz.f9.results.toList (ImgT ([119,103]++s) w) (λ_ _=>False) F' PanI _
  refine panQ (ag 4294967296 rfl) (d:={ target:=.fn (.func F.qe) #[.pointer (some ⟨bg,0,none⟩),.pointer (some ⟨be,0,none⟩)],args:=#[] }) (ds:=[]) rfl ?_
  exact pan (x:=⟨N,⟨ea2,(edsOf 0 (rowsOf ps++[l])).length,ec2⟩,⟨wa,vs.length,wc⟩⟩) J5g J5e ⟨Fr.st J4.st.e f5' nbr⟩ (hbad (zCO hr2.2 (by rw [hW];split;exact hno (by assumption);rfl))) (ag 2 rfl) (ag 3 rfl)
 rintro _ u5 ⟨ws,A4,hn8,hr4,O5,R5,f5'⟩
 refine⟨Fr.mono f5' λ_ _ _=>trivial,?_⟩
 have J5:=J4.read f5' R5 ngr ner hbrw
 have O5:=O5.mono J4.st.e.size
 have q5:=O5.shape
 obtain⟨sa,sc,rfl⟩:=q5
 refine⟨?_,?_⟩
 ·have J5g:=J5.g
  refine rld (B:=J5g) rfl ⟨Fr.refl _ _,?_⟩
  refine rbs1 (⟨sa,(ws.map bsOf).length,sc⟩:SV) rfl rfl (by decide) λb6 u6 e6 _ S6=>⟨Fr.mono e6.e λ_ _ _=>trivial,?_⟩
  have J6:=J5.up (u':=u6)
  have s6:=J6.st
  have J6g:=J6.g
  refine rapp1 (u:=w) ⟨rfl,rfl⟩ J6.wo S6 (by omega) λv7 u7 O7 f7 s7=>⟨Fr.mono f7 λ_ _ _=>trivial,?_⟩
  have G7:=J6g.fro J6.wo f7 (by decide)
  have q7:=O7.shape
  obtain⟨a7,c7,rfl⟩:=q7
  refine rsto (B:=G7) (vs:=[.slice a7 (vs++[(⟨sa,(ws.map bsOf).length,sc⟩:SV)]).length c7]) rfl rfl rfl (sv1 _ _ _) λu8 G8 f8 _=>⟨Fr.mono f8 λ_ _ _=>trivial,?_⟩
  have O5':=(((O5.up (w':=u6)).fro J6.wo f7 (by decide)).frc f8 G7 (by decide))
  have hpl:=zFq hr2.2 (show rdWs (s.drop A2)=some (ws,s.drop A4) by rw [hW,if_pos hn8];exact hr4.2)
  have e1:rowsOf (ps++[(l,ws)])=rowsOf ps++[l]:=by simp [rowsOf]
  have e2:wdsOf (ps++[(l,ws)])=wdsOf ps++[ws.map bsOf]:=by simp [wdsOf]
  have J8:PaJ w s bg be br N u8 (edsOf 0 (rowsOf (ps++[(l,ws)]))) A4 ea2 ec2 a7 c7 (vs++[(⟨sa,(ws.map bsOf).length,sc⟩:SV)]) (wdsOf (ps++[(l,ws)])):=by
   rw [e1,e2]
   exact⟨(J6.rd.fro J6.wo f7 (by decide)).fr f8 (λh=>ngr h.symm),G8,(J6.e.fro J6.wo f7 (by decide)).fr f8 hne,(J6.es.fro J6.wo f7 (by decide)).frc f8 G7 (by decide),O7.frc f8 G7 (by decide),RowsO.add ((J6.rows.fro J6.wo f7 (by decide)).frc f8 G7 (by decide)) O5',⟨Fr.st (Le.e (a:=w) (b:=u7)) f8 nbg⟩⟩
  refine rA ⟨rfl,by omega,ps++[(l,ws)],A4,ea2,ec2,a7,c7,vs++[(⟨sa,(ws.map bsOf).length,sc⟩:SV)],J8,?_,hr4.1,?_,?_⟩
  ·rw [List.length_append,hpsl];rfl
  ·rw [<-hpre,hkn,zAS hpl]
  ·intro p hp
   have q_:=List.mem_append.1 hp
   rcases q_ with hp|hp
   ·exact hsm p hp
   ·rw [List.mem_singleton.1 hp];exact zCx hpl
 refine rbs1 (⟨sa,(ws.map bsOf).length,sc⟩:SV) rfl rfl (by decide) λb6 u6 e6 _ S6=>⟨Fr.mono e6.e λ_ _ _=>trivial,?_⟩
 have J6:=J5.up (u':=u6)
 have J6g:=J6.g
 refine rld (B:=J6g) rfl ⟨Fr.refl _ _,?_⟩
 have s6:=J6.st
 have J6g:=J6.g
 refine rapp1 (u:=w) ⟨rfl,rfl⟩ J6.wo S6 (by omega) λv7 u7 O7 f7 s7=>⟨Fr.mono f7 λ_ _ _=>trivial,?_⟩
 have G7:=J6g.fro J6.wo f7 (by decide)
 have q7:=O7.shape
 obtain⟨a7,c7,rfl⟩:=q7
 refine rsto (B:=G7) (vs:=[.slice a7 (vs++[(⟨sa,(ws.map bsOf).length,sc⟩:SV)]).length c7]) rfl rfl rfl (sv1 _ _ _) λu8 G8 f8 _=>⟨Fr.mono f8 λ_ _ _=>trivial,?_⟩
 have O5':=(((O5.up (w':=u6)).fro J6.wo f7 (by decide)).frc f8 G7 (by decide))
 have hpl:=zFq hr2.2 (show rdWs (s.drop A2)=some (ws,s.drop A4) by rw [hW,if_pos hn8];exact hr4.2)
 have e1:rowsOf (ps++[(l,ws)])=rowsOf ps++[l]:=by simp [rowsOf]
 have e2:wdsOf (ps++[(l,ws)])=wdsOf ps++[ws.map bsOf]:=by simp [wdsOf]
 have J8:PaJ w s bg be br N u8 (edsOf 0 (rowsOf (ps++[(l,ws)]))) A4 ea2 ec2 a7 c7 (vs++[(⟨sa,(ws.map bsOf).length,sc⟩:SV)]) (wdsOf (ps++[(l,ws)])):=by
  rw [e1,e2]
  exact⟨(J6.rd.fro J6.wo f7 (by decide)).fr f8 (λh=>ngr h.symm),G8,(J6.e.fro J6.wo f7 (by decide)).fr f8 hne,(J6.es.fro J6.wo f7 (by decide)).frc f8 G7 (by decide),O7.frc f8 G7 (by decide),RowsO.add ((J6.rows.fro J6.wo f7 (by decide)).frc f8 G7 (by decide)) O5',⟨Fr.st (Le.e (a:=w) (b:=u7)) f8 nbg⟩⟩
 refine rA ⟨rfl,by omega,ps++[(l,ws)],A4,ea2,ec2,a7,c7,vs++[(⟨sa,(ws.map bsOf).length,sc⟩:SV)],J8,?_,hr4.1,?_,?_⟩
 ·rw [List.length_append,hpsl];rfl
 ·rw [<-hpre,hkn,zAS hpl]
 ·intro p hp
  have q_:=List.mem_append.1 hp
  rcases q_ with hp|hp
  ·exact hsm p hp
  ·rw [List.mem_singleton.1 hp];exact zCx hpl
abbrev NorT (g:GrD) (w:World) (v:Value) (w':World):Prop:=
 (∃x es,v=.tuple #[agg (x:RGr),.int .i64 0]/\es.Perm g.es/\es.Pairwise ltE/\Own w.heap.size E.qr w' (.slice x.es.a x.es.n x.es.c) es/\x.n=(g.n:Int))/\Stp w w'
theorem zGJ{x:RGr}{vs:List SV}(V:GrV w x g vs)(hc:GrChk g)(hd:g.es.Nodup)(hw:∀l∈g.ws,l.Nodup):Sp PP F.d6 #[agg x] w (NorT g w):=by
 have hvl:=V.ws.len
 have hrl:=V.rows.1
 have hcn:=hc.n2;have hcw:=hc.nw
 refine en TBok rfl ?_
 refine rbx λbx w1 n1 B1=>ral λbz w2 n2 z2=>rldG (ds:=enc x) (B:=B1) rfl rfl (rcall (zDp (V.up (w':=w2))) ?_)
 rintro _ w3 ⟨⟨rfl,_⟩|⟨rfl,hno⟩,e3⟩
 case' inr=>exact absurd hc hno
 have Z3:Bk w3 bz (enc zGr) E.qf:=z2.mv
 clear z2
 have hbx:=n1.b;have hsx:=n1.s;have hbz:=n2.b;have hsz:=n2.s
 have z03:=Le.size (a:=w2) (b:=w3)
 refine drawRT TBok mixed (λi=>w3.heap.size<=i) (.one 0 (.one 1 (.one 2 (.one 3 (.duo 4 (.duo 5 (.one 6 (.one 7 (.one 8 .nil))) 7 (.one 5 (.one 6 (.one 8 .nil)))) 7 (.one 4 (.one 5 (.one 6 (.one 8 .nil))))))))) (by kernel_rfl) λw4 e4 _=>?_
 have z34:=e4.e.size
 have n1x:¬w3.heap.size<=bx:=by have:=(B1.mv (w:=w3)).lt;omega
 refine tld (B:=B1) rfl n1x (tld (B:=B1) rfl n1x ?_)
 refine⟨?_,?_⟩
 ·refine rcall zBU ?_
  rintro _ w5 ⟨rfl,e5⟩
  refine⟨Fr.fr e5.e,?_⟩
  refine⟨?_,?_⟩
  ·have q_:∃w6,w6=w5:=⟨_,rfl⟩
   obtain⟨w6,hw6⟩:=q_
   subst hw6
   refine rcall (zBg (V.es.up (w':=w6)) hd V.small.1) ?_
   rintro v w7 ⟨⟨es,hp,hs,O7⟩,e7⟩
   refine⟨Fr.fr e7.e,?_⟩
   have hl:=hp.length_eq
   have q7:=O7.shape
   obtain⟨ea,ec,rfl⟩:=q7
   have O7:=O7.mono (Le.size (a:=w) (b:=w6))
   refine tbuild (cs:=enc (⟨g.n,⟨ea,es.length,ec⟩,⟨none,0,0⟩⟩:RGr)) (by rw [<-V.n];rfl) (ral λbo w8 n8 N8=>⟨Fr.fr n8.e,?_⟩)
   have hbo:=n8.b
   have z78:=Le.size (a:=w4) (b:=w7)
   refine rsto (B:=N8) (vs:=enc (⟨g.n,⟨ea,es.length,ec⟩,⟨none,0,0⟩⟩:RGr)) rfl rfl rfl (Enc.one _) λw9 N9 f9 _=>⟨f9.mono λi _ hi=>by subst hi;omega,?_⟩
   have N9:Bk w9 bo [.int .i64 (g.n:Int),.slice ea es.length ec,.slice none 0 0] E.qf:=N9
   have hzo:¬bz=bo:=by omega
   have nbo:∀i,i=bo->w.heap.size<=i:=by omega
   have s9:Stp w w9:=⟨Fr.st (Le.e (a:=w) (b:=w8)) f9 nbo⟩
   have O9:=(O7.up (w':=w8)).frc f9 N8 (by decide)
   have Z9:=(Z3.mv (w:=w8)).fr f9 hzo
   have B9:=(B1.mv (w:=w8)).fr f9 (by omega)
   have V9:=(V.up (w':=w9))
   clear N8 Z3
   refine rld (B:=B9) rfl ?_
   refine cnt TBok 21 [6] 21 vs.length (λk u=>∃wa wc vs',Bk u bo [.int .i64 (g.n:Int),.slice ea es.length ec,.slice wa vs'.length wc] E.qf/\Own w.heap.size E.yc u (.slice wa vs'.length wc) vs'/\vs'.length=k/\Own w.heap.size E.qr u (.slice ea es.length ec) es/\Bk u bz (enc zGr) E.qf/\Stp w u) rfl rfl
    ⟨none,0,([]:List SV),N9,Own.nil _ _ _,rfl,O9,Z9,s9⟩ ?_
   rintro k gf u hk ⟨wa,wc,vs',Nu,Ou,hl',Eu,Zu,su⟩
   refine ite (λhlt=>?_) (λhge=>?_)
   ·have hka:k<vs.length:=by omega
    have hkw:k<g.ws.length:=by omega
    refine rix (V.ws.up (w':=u)) (x:=vs[k]) (by simp) λb2 o2 A2=>rload1 (A2.cell0 rfl) (drawRT TBok mixed (λ_=>True) (.one 0 (.one 2 (.duo 1 (.one 3 (.one 4 (.one 5 (.one 6 (.one 7 (.one 8 .nil)))))) 3 (.duo 1 (.one 4 (.one 5 (.one 6 (.one 7 (.one 8 .nil))))) 4 (.duo 1 (.one 5 (.one 6 (.one 7 (.one 8 .nil)))) 5 (.lone 1 (.one 6 (.one 7 (.one 8 .nil))))))))) (by kernel_rfl) λu1 d1 _=>?_)
    refine⟨?_,?_⟩
    ·refine rld (B:=Nu.mv (w:=u1)) rfl ⟨Fr.refl _ _,?_⟩
     refine rcall zAy ?_
     rintro _ u2 ⟨rfl,d2⟩
     refine⟨Fr.mono d2.e λ_ _ _=>trivial,?_⟩
     refine rcall (zAh ((V.rows.up (w':=u2)).2 k hka hkw) (hw _ (List.getElem_mem _)) (V.small.2.2 _ (List.getElem_mem _))) ?_
     rintro v u3 ⟨⟨l',hp',_,O3⟩,d3⟩
     refine⟨Fr.mono d3.e λ_ _ _=>trivial,?_⟩
     have q3:=O3.shape
     obtain⟨la,lc,rfl⟩:=q3
     refine rbs1 (⟨la,l'.length,lc⟩:SV) rfl rfl (by decide) λb6 u4 d4 _ S4=>⟨Fr.mono d4.e λ_ _ _=>trivial,?_⟩
     have N4:=Nu.mv (w:=u4)
     refine rapp1 (u:=w) ⟨rfl,rfl⟩ (Ou.up (w':=u4)) S4 (by omega) λv5 u5 O5 f5 s5=>⟨Fr.mono f5 λ_ _ _=>trivial,?_⟩
     have N5:=N4.fro (Ou.up (w':=u4)) f5 (by decide)
     have q5:=O5.shape
     obtain⟨a5,c5,rfl⟩:=q5
     refine rsto (B:=N5) (vs:=[.slice a5 (vs'++[(⟨la,l'.length,lc⟩:SV)]).length c5]) rfl rfl rfl (sv1 _ _ _) λu6 N6 f6 _=>⟨Fr.mono f6 λ_ _ _=>trivial,?_⟩
     exact rA ⟨rfl,hka,a5,c5,vs'++[(⟨la,l'.length,lc⟩:SV)],N6,O5.frc f6 N5 (by decide),by simp [hl'],((Eu.up (w':=u4)).fro (Ou.up (w':=u4)) f5 (by decide)).frc f6 N5 (by decide),((Zu.mv (w:=u4)).fro (Ou.up (w':=u4)) f5 (by decide)).fr f6 hzo,⟨Fr.st (Le.e (a:=w) (b:=u5)) f6 nbo⟩⟩
    refine rcall zAy ?_
    rintro _ u2 ⟨rfl,d2⟩
    refine⟨Fr.mono d2.e λ_ _ _=>trivial,?_⟩
    refine⟨?_,?_⟩
    ·refine rld (B:=Nu.mv (w:=u2)) rfl ⟨Fr.refl _ _,?_⟩
     refine rcall (zAh ((V.rows.up (w':=u2)).2 k hka hkw) (hw _ (List.getElem_mem _)) (V.small.2.2 _ (List.getElem_mem _))) ?_
     rintro v u3 ⟨⟨l',hp',_,O3⟩,d3⟩
     refine⟨Fr.mono d3.e λ_ _ _=>trivial,?_⟩
     have q3:=O3.shape
     obtain⟨la,lc,rfl⟩:=q3
     refine rbs1 (⟨la,l'.length,lc⟩:SV) rfl rfl (by decide) λb6 u4 d4 _ S4=>⟨Fr.mono d4.e λ_ _ _=>trivial,?_⟩
     have N4:=Nu.mv (w:=u4)
     refine rapp1 (u:=w) ⟨rfl,rfl⟩ (Ou.up (w':=u4)) S4 (by omega) λv5 u5 O5 f5 s5=>⟨Fr.mono f5 λ_ _ _=>trivial,?_⟩
     have N5:=N4.fro (Ou.up (w':=u4)) f5 (by decide)
     have q5:=O5.shape
     obtain⟨a5,c5,rfl⟩:=q5
     refine rsto (B:=N5) (vs:=[.slice a5 (vs'++[(⟨la,l'.length,lc⟩:SV)]).length c5]) rfl rfl rfl (sv1 _ _ _) λu6 N6 f6 _=>⟨Fr.mono f6 λ_ _ _=>trivial,?_⟩
     exact rA ⟨rfl,hka,a5,c5,vs'++[(⟨la,l'.length,lc⟩:SV)],N6,O5.frc f6 N5 (by decide),by simp [hl'],((Eu.up (w':=u4)).fro (Ou.up (w':=u4)) f5 (by decide)).frc f6 N5 (by decide),((Zu.mv (w:=u4)).fro (Ou.up (w':=u4)) f5 (by decide)).fr f6 hzo,⟨Fr.st (Le.e (a:=w) (b:=u5)) f6 nbo⟩⟩
    refine rcall (zAh ((V.rows.up (w':=u2)).2 k hka hkw) (hw _ (List.getElem_mem _)) (V.small.2.2 _ (List.getElem_mem _))) ?_
    rintro v u3 ⟨⟨l',hp',_,O3⟩,d3⟩
    refine⟨Fr.mono d3.e λ_ _ _=>trivial,?_⟩
    have q3:=O3.shape
    obtain⟨la,lc,rfl⟩:=q3
    refine⟨?_,?_⟩
    ·refine rld (B:=Nu.mv (w:=u3)) rfl ⟨Fr.refl _ _,?_⟩
     refine rbs1 (⟨la,l'.length,lc⟩:SV) rfl rfl (by decide) λb6 u4 d4 _ S4=>⟨Fr.mono d4.e λ_ _ _=>trivial,?_⟩
     have N4:=Nu.mv (w:=u4)
     refine rapp1 (u:=w) ⟨rfl,rfl⟩ (Ou.up (w':=u4)) S4 (by omega) λv5 u5 O5 f5 s5=>⟨Fr.mono f5 λ_ _ _=>trivial,?_⟩
     have N5:=N4.fro (Ou.up (w':=u4)) f5 (by decide)
     have q5:=O5.shape
     obtain⟨a5,c5,rfl⟩:=q5
     refine rsto (B:=N5) (vs:=[.slice a5 (vs'++[(⟨la,l'.length,lc⟩:SV)]).length c5]) rfl rfl rfl (sv1 _ _ _) λu6 N6 f6 _=>⟨Fr.mono f6 λ_ _ _=>trivial,?_⟩
     exact rA ⟨rfl,hka,a5,c5,vs'++[(⟨la,l'.length,lc⟩:SV)],N6,O5.frc f6 N5 (by decide),by simp [hl'],((Eu.up (w':=u4)).fro (Ou.up (w':=u4)) f5 (by decide)).frc f6 N5 (by decide),((Zu.mv (w:=u4)).fro (Ou.up (w':=u4)) f5 (by decide)).fr f6 hzo,⟨Fr.st (Le.e (a:=w) (b:=u5)) f6 nbo⟩⟩
    refine rbs1 (⟨la,l'.length,lc⟩:SV) rfl rfl (by decide) λb6 u4 d4 _ S4=>⟨Fr.mono d4.e λ_ _ _=>trivial,?_⟩
    refine rld (B:=Nu.mv (w:=u4)) rfl ⟨Fr.refl _ _,?_⟩
    have N4:=Nu.mv (w:=u4)
    refine rapp1 (u:=w) ⟨rfl,rfl⟩ (Ou.up (w':=u4)) S4 (by omega) λv5 u5 O5 f5 s5=>⟨Fr.mono f5 λ_ _ _=>trivial,?_⟩
    have N5:=N4.fro (Ou.up (w':=u4)) f5 (by decide)
    have q5:=O5.shape
    obtain⟨a5,c5,rfl⟩:=q5
    refine rsto (B:=N5) (vs:=[.slice a5 (vs'++[(⟨la,l'.length,lc⟩:SV)]).length c5]) rfl rfl rfl (sv1 _ _ _) λu6 N6 f6 _=>⟨Fr.mono f6 λ_ _ _=>trivial,?_⟩
    exact rA ⟨rfl,hka,a5,c5,vs'++[(⟨la,l'.length,lc⟩:SV)],N6,O5.frc f6 N5 (by decide),by simp [hl'],((Eu.up (w':=u4)).fro (Ou.up (w':=u4)) f5 (by decide)).frc f6 N5 (by decide),((Zu.mv (w:=u4)).fro (Ou.up (w':=u4)) f5 (by decide)).fr f6 hzo,⟨Fr.st (Le.e (a:=w) (b:=u5)) f6 nbo⟩⟩
   ·refine rldG (ds:=enc (⟨g.n,⟨ea,es.length,ec⟩,⟨wa,vs'.length,wc⟩⟩:RGr)) (B:=Nu) rfl rfl (rsto (B:=Zu) (vs:=enc (⟨g.n,⟨ea,es.length,ec⟩,⟨wa,vs'.length,wc⟩⟩:RGr)) rfl rfl rfl (Enc.one _) λu2 Z2 f2 _=>?_)
    have Z2:Bk u2 bz (enc (⟨g.n,⟨ea,es.length,ec⟩,⟨wa,vs'.length,wc⟩⟩:RGr)) E.qf:=Z2
    refine rresG (B:=Z2) rfl ?_
    exact⟨⟨⟨g.n,⟨ea,es.length,ec⟩,⟨wa,vs'.length,wc⟩⟩,es,rfl,hp,hs,Eu.frc f2 Zu (by decide),rfl⟩,⟨Fr.st su.e f2 λi hi=>by subst hi;omega⟩⟩
  ·refine ral λbo w6 n6 N6=>⟨Fr.fr n6.e,?_⟩
   have hbo:=n6.b
   have z78:=Le.size (a:=w4) (b:=w5)
   refine rcall (zBg (V.es.up (w':=w6)) hd V.small.1) ?_
   rintro v w7 ⟨⟨es,hp,hs,O7⟩,e7⟩
   refine⟨Fr.fr e7.e,?_⟩
   have hl:=hp.length_eq
   have q7:=O7.shape
   obtain⟨ea,ec,rfl⟩:=q7
   have O7:=O7.mono (Le.size (a:=w) (b:=w6))
   refine tbuild (cs:=enc (⟨g.n,⟨ea,es.length,ec⟩,⟨none,0,0⟩⟩:RGr)) (by rw [<-V.n];rfl) ?_
   have N8:=N6.mv (w:=w7)
   have q_:∃w8,w8=w7:=⟨_,rfl⟩
   obtain⟨w8,hw8⟩:=q_
   subst hw8
   refine rsto (B:=N8) (vs:=enc (⟨g.n,⟨ea,es.length,ec⟩,⟨none,0,0⟩⟩:RGr)) rfl rfl rfl (Enc.one _) λw9 N9 f9 _=>⟨f9.mono λi _ hi=>by subst hi;omega,?_⟩
   have N9:Bk w9 bo [.int .i64 (g.n:Int),.slice ea es.length ec,.slice none 0 0] E.qf:=N9
   have hzo:¬bz=bo:=by omega
   have nbo:∀i,i=bo->w.heap.size<=i:=by omega
   have s9:Stp w w9:=⟨Fr.st (Le.e (a:=w) (b:=w8)) f9 nbo⟩
   have O9:=(O7.up (w':=w8)).frc f9 N8 (by decide)
   have Z9:=(Z3.mv (w:=w8)).fr f9 hzo
   have B9:=(B1.mv (w:=w8)).fr f9 (by omega)
   have V9:=(V.up (w':=w9))
   clear N8 Z3
   refine rld (B:=B9) rfl ?_
   refine cnt TBok 21 [6] 21 vs.length (λk u=>∃wa wc vs',Bk u bo [.int .i64 (g.n:Int),.slice ea es.length ec,.slice wa vs'.length wc] E.qf/\Own w.heap.size E.yc u (.slice wa vs'.length wc) vs'/\vs'.length=k/\Own w.heap.size E.qr u (.slice ea es.length ec) es/\Bk u bz (enc zGr) E.qf/\Stp w u) rfl rfl
    ⟨none,0,([]:List SV),N9,Own.nil _ _ _,rfl,O9,Z9,s9⟩ ?_
   rintro k gf u hk ⟨wa,wc,vs',Nu,Ou,hl',Eu,Zu,su⟩
   refine ite (λhlt=>?_) (λhge=>?_)
   ·have hka:k<vs.length:=by omega
    have hkw:k<g.ws.length:=by omega
    refine rix (V.ws.up (w':=u)) (x:=vs[k]) (by simp) λb2 o2 A2=>rload1 (A2.cell0 rfl) (drawRT TBok mixed (λ_=>True) (.one 0 (.one 2 (.duo 1 (.one 3 (.one 4 (.one 5 (.one 6 (.one 7 (.one 8 .nil)))))) 3 (.duo 1 (.one 4 (.one 5 (.one 6 (.one 7 (.one 8 .nil))))) 4 (.duo 1 (.one 5 (.one 6 (.one 7 (.one 8 .nil)))) 5 (.lone 1 (.one 6 (.one 7 (.one 8 .nil))))))))) (by kernel_rfl) λu1 d1 _=>?_)
    refine⟨?_,?_⟩
    ·refine rld (B:=Nu.mv (w:=u1)) rfl ⟨Fr.refl _ _,?_⟩
     refine rcall zAy ?_
     rintro _ u2 ⟨rfl,d2⟩
     refine⟨Fr.mono d2.e λ_ _ _=>trivial,?_⟩
     refine rcall (zAh ((V.rows.up (w':=u2)).2 k hka hkw) (hw _ (List.getElem_mem _)) (V.small.2.2 _ (List.getElem_mem _))) ?_
     rintro v u3 ⟨⟨l',hp',_,O3⟩,d3⟩
     refine⟨Fr.mono d3.e λ_ _ _=>trivial,?_⟩
     have q3:=O3.shape
     obtain⟨la,lc,rfl⟩:=q3
     refine rbs1 (⟨la,l'.length,lc⟩:SV) rfl rfl (by decide) λb6 u4 d4 _ S4=>⟨Fr.mono d4.e λ_ _ _=>trivial,?_⟩
     have N4:=Nu.mv (w:=u4)
     refine rapp1 (u:=w) ⟨rfl,rfl⟩ (Ou.up (w':=u4)) S4 (by omega) λv5 u5 O5 f5 s5=>⟨Fr.mono f5 λ_ _ _=>trivial,?_⟩
     have N5:=N4.fro (Ou.up (w':=u4)) f5 (by decide)
     have q5:=O5.shape
     obtain⟨a5,c5,rfl⟩:=q5
     refine rsto (B:=N5) (vs:=[.slice a5 (vs'++[(⟨la,l'.length,lc⟩:SV)]).length c5]) rfl rfl rfl (sv1 _ _ _) λu6 N6 f6 _=>⟨Fr.mono f6 λ_ _ _=>trivial,?_⟩
     exact rA ⟨rfl,hka,a5,c5,vs'++[(⟨la,l'.length,lc⟩:SV)],N6,O5.frc f6 N5 (by decide),by simp [hl'],((Eu.up (w':=u4)).fro (Ou.up (w':=u4)) f5 (by decide)).frc f6 N5 (by decide),((Zu.mv (w:=u4)).fro (Ou.up (w':=u4)) f5 (by decide)).fr f6 hzo,⟨Fr.st (Le.e (a:=w) (b:=u5)) f6 nbo⟩⟩
    refine rcall zAy ?_
    rintro _ u2 ⟨rfl,d2⟩
    refine⟨Fr.mono d2.e λ_ _ _=>trivial,?_⟩
    refine⟨?_,?_⟩
    ·refine rld (B:=Nu.mv (w:=u2)) rfl ⟨Fr.refl _ _,?_⟩
     refine rcall (zAh ((V.rows.up (w':=u2)).2 k hka hkw) (hw _ (List.getElem_mem _)) (V.small.2.2 _ (List.getElem_mem _))) ?_
     rintro v u3 ⟨⟨l',hp',_,O3⟩,d3⟩
     refine⟨Fr.mono d3.e λ_ _ _=>trivial,?_⟩
     have q3:=O3.shape
     obtain⟨la,lc,rfl⟩:=q3
     refine rbs1 (⟨la,l'.length,lc⟩:SV) rfl rfl (by decide) λb6 u4 d4 _ S4=>⟨Fr.mono d4.e λ_ _ _=>trivial,?_⟩
     have N4:=Nu.mv (w:=u4)
     refine rapp1 (u:=w) ⟨rfl,rfl⟩ (Ou.up (w':=u4)) S4 (by omega) λv5 u5 O5 f5 s5=>⟨Fr.mono f5 λ_ _ _=>trivial,?_⟩
     have N5:=N4.fro (Ou.up (w':=u4)) f5 (by decide)
     have q5:=O5.shape
     obtain⟨a5,c5,rfl⟩:=q5
     refine rsto (B:=N5) (vs:=[.slice a5 (vs'++[(⟨la,l'.length,lc⟩:SV)]).length c5]) rfl rfl rfl (sv1 _ _ _) λu6 N6 f6 _=>⟨Fr.mono f6 λ_ _ _=>trivial,?_⟩
     exact rA ⟨rfl,hka,a5,c5,vs'++[(⟨la,l'.length,lc⟩:SV)],N6,O5.frc f6 N5 (by decide),by simp [hl'],((Eu.up (w':=u4)).fro (Ou.up (w':=u4)) f5 (by decide)).frc f6 N5 (by decide),((Zu.mv (w:=u4)).fro (Ou.up (w':=u4)) f5 (by decide)).fr f6 hzo,⟨Fr.st (Le.e (a:=w) (b:=u5)) f6 nbo⟩⟩
    refine rcall (zAh ((V.rows.up (w':=u2)).2 k hka hkw) (hw _ (List.getElem_mem _)) (V.small.2.2 _ (List.getElem_mem _))) ?_
    rintro v u3 ⟨⟨l',hp',_,O3⟩,d3⟩
    refine⟨Fr.mono d3.e λ_ _ _=>trivial,?_⟩
    have q3:=O3.shape
    obtain⟨la,lc,rfl⟩:=q3
    refine⟨?_,?_⟩
    ·refine rld (B:=Nu.mv (w:=u3)) rfl ⟨Fr.refl _ _,?_⟩
     refine rbs1 (⟨la,l'.length,lc⟩:SV) rfl rfl (by decide) λb6 u4 d4 _ S4=>⟨Fr.mono d4.e λ_ _ _=>trivial,?_⟩
     have N4:=Nu.mv (w:=u4)
     refine rapp1 (u:=w) ⟨rfl,rfl⟩ (Ou.up (w':=u4)) S4 (by omega) λv5 u5 O5 f5 s5=>⟨Fr.mono f5 λ_ _ _=>trivial,?_⟩
     have N5:=N4.fro (Ou.up (w':=u4)) f5 (by decide)
     have q5:=O5.shape
     obtain⟨a5,c5,rfl⟩:=q5
     refine rsto (B:=N5) (vs:=[.slice a5 (vs'++[(⟨la,l'.length,lc⟩:SV)]).length c5]) rfl rfl rfl (sv1 _ _ _) λu6 N6 f6 _=>⟨Fr.mono f6 λ_ _ _=>trivial,?_⟩
     exact rA ⟨rfl,hka,a5,c5,vs'++[(⟨la,l'.length,lc⟩:SV)],N6,O5.frc f6 N5 (by decide),by simp [hl'],((Eu.up (w':=u4)).fro (Ou.up (w':=u4)) f5 (by decide)).frc f6 N5 (by decide),((Zu.mv (w:=u4)).fro (Ou.up (w':=u4)) f5 (by decide)).fr f6 hzo,⟨Fr.st (Le.e (a:=w) (b:=u5)) f6 nbo⟩⟩
    refine rbs1 (⟨la,l'.length,lc⟩:SV) rfl rfl (by decide) λb6 u4 d4 _ S4=>⟨Fr.mono d4.e λ_ _ _=>trivial,?_⟩
    refine rld (B:=Nu.mv (w:=u4)) rfl ⟨Fr.refl _ _,?_⟩
    have N4:=Nu.mv (w:=u4)
    refine rapp1 (u:=w) ⟨rfl,rfl⟩ (Ou.up (w':=u4)) S4 (by omega) λv5 u5 O5 f5 s5=>⟨Fr.mono f5 λ_ _ _=>trivial,?_⟩
    have N5:=N4.fro (Ou.up (w':=u4)) f5 (by decide)
    have q5:=O5.shape
    obtain⟨a5,c5,rfl⟩:=q5
    refine rsto (B:=N5) (vs:=[.slice a5 (vs'++[(⟨la,l'.length,lc⟩:SV)]).length c5]) rfl rfl rfl (sv1 _ _ _) λu6 N6 f6 _=>⟨Fr.mono f6 λ_ _ _=>trivial,?_⟩
    exact rA ⟨rfl,hka,a5,c5,vs'++[(⟨la,l'.length,lc⟩:SV)],N6,O5.frc f6 N5 (by decide),by simp [hl'],((Eu.up (w':=u4)).fro (Ou.up (w':=u4)) f5 (by decide)).frc f6 N5 (by decide),((Zu.mv (w:=u4)).fro (Ou.up (w':=u4)) f5 (by decide)).fr f6 hzo,⟨Fr.st (Le.e (a:=w) (b:=u5)) f6 nbo⟩⟩
   ·refine rldG (ds:=enc (⟨g.n,⟨ea,es.length,ec⟩,⟨wa,vs'.length,wc⟩⟩:RGr)) (B:=Nu) rfl rfl (rsto (B:=Zu) (vs:=enc (⟨g.n,⟨ea,es.length,ec⟩,⟨wa,vs'.length,wc⟩⟩:RGr)) rfl rfl rfl (Enc.one _) λu2 Z2 f2 _=>?_)
    have Z2:Bk u2 bz (enc (⟨g.n,⟨ea,es.length,ec⟩,⟨wa,vs'.length,wc⟩⟩:RGr)) E.qf:=Z2
    refine rresG (B:=Z2) rfl ?_
    exact⟨⟨⟨g.n,⟨ea,es.length,ec⟩,⟨wa,vs'.length,wc⟩⟩,es,rfl,hp,hs,Eu.frc f2 Zu (by decide),rfl⟩,⟨Fr.st su.e f2 λi hi=>by subst hi;omega⟩⟩
 ·refine ral λbo w4' n6 N6=>⟨Fr.fr n6.e,?_⟩
  have hbo:=n6.b
  have z78:=e4.e.size
  refine rcall zBU ?_
  rintro _ w5 ⟨rfl,e5⟩
  refine⟨Fr.fr e5.e,?_⟩
  have q_:∃w6,w6=w5:=⟨_,rfl⟩
  obtain⟨w6,hw6⟩:=q_
  subst hw6
  refine rcall (zBg (V.es.up (w':=w6)) hd V.small.1) ?_
  rintro v w7 ⟨⟨es,hp,hs,O7⟩,e7⟩
  refine⟨Fr.fr e7.e,?_⟩
  have hl:=hp.length_eq
  have q7:=O7.shape
  obtain⟨ea,ec,rfl⟩:=q7
  have O7:=O7.mono (Le.size (a:=w) (b:=w6))
  refine tbuild (cs:=enc (⟨g.n,⟨ea,es.length,ec⟩,⟨none,0,0⟩⟩:RGr)) (by rw [<-V.n];rfl) ?_
  have N8:=N6.mv (w:=w7)
  have q_:∃w8,w8=w7:=⟨_,rfl⟩
  obtain⟨w8,hw8⟩:=q_
  subst hw8
  refine rsto (B:=N8) (vs:=enc (⟨g.n,⟨ea,es.length,ec⟩,⟨none,0,0⟩⟩:RGr)) rfl rfl rfl (Enc.one _) λw9 N9 f9 _=>⟨f9.mono λi _ hi=>by subst hi;omega,?_⟩
  have N9:Bk w9 bo [.int .i64 (g.n:Int),.slice ea es.length ec,.slice none 0 0] E.qf:=N9
  have hzo:¬bz=bo:=by omega
  have nbo:∀i,i=bo->w.heap.size<=i:=by omega
  have s9:Stp w w9:=⟨Fr.st (Le.e (a:=w) (b:=w8)) f9 nbo⟩
  have O9:=(O7.up (w':=w8)).frc f9 N8 (by decide)
  have Z9:=(Z3.mv (w:=w8)).fr f9 hzo
  have B9:=(B1.mv (w:=w8)).fr f9 (by omega)
  have V9:=(V.up (w':=w9))
  clear N8 Z3
  refine rld (B:=B9) rfl ?_
  refine cnt TBok 21 [6] 21 vs.length (λk u=>∃wa wc vs',Bk u bo [.int .i64 (g.n:Int),.slice ea es.length ec,.slice wa vs'.length wc] E.qf/\Own w.heap.size E.yc u (.slice wa vs'.length wc) vs'/\vs'.length=k/\Own w.heap.size E.qr u (.slice ea es.length ec) es/\Bk u bz (enc zGr) E.qf/\Stp w u) rfl rfl
   ⟨none,0,([]:List SV),N9,Own.nil _ _ _,rfl,O9,Z9,s9⟩ ?_
  rintro k gf u hk ⟨wa,wc,vs',Nu,Ou,hl',Eu,Zu,su⟩
  refine ite (λhlt=>?_) (λhge=>?_)
  ·have hka:k<vs.length:=by omega
   have hkw:k<g.ws.length:=by omega
   refine rix (V.ws.up (w':=u)) (x:=vs[k]) (by simp) λb2 o2 A2=>rload1 (A2.cell0 rfl) (drawRT TBok mixed (λ_=>True) (.one 0 (.one 2 (.duo 1 (.one 3 (.one 4 (.one 5 (.one 6 (.one 7 (.one 8 .nil)))))) 3 (.duo 1 (.one 4 (.one 5 (.one 6 (.one 7 (.one 8 .nil))))) 4 (.duo 1 (.one 5 (.one 6 (.one 7 (.one 8 .nil)))) 5 (.lone 1 (.one 6 (.one 7 (.one 8 .nil))))))))) (by kernel_rfl) λu1 d1 _=>?_)
   refine⟨?_,?_⟩
   ·refine rld (B:=Nu.mv (w:=u1)) rfl ⟨Fr.refl _ _,?_⟩
    refine rcall zAy ?_
    rintro _ u2 ⟨rfl,d2⟩
    refine⟨Fr.mono d2.e λ_ _ _=>trivial,?_⟩
    refine rcall (zAh ((V.rows.up (w':=u2)).2 k hka hkw) (hw _ (List.getElem_mem _)) (V.small.2.2 _ (List.getElem_mem _))) ?_
    rintro v u3 ⟨⟨l',hp',_,O3⟩,d3⟩
    refine⟨Fr.mono d3.e λ_ _ _=>trivial,?_⟩
    have q3:=O3.shape
    obtain⟨la,lc,rfl⟩:=q3
    refine rbs1 (⟨la,l'.length,lc⟩:SV) rfl rfl (by decide) λb6 u4 d4 _ S4=>⟨Fr.mono d4.e λ_ _ _=>trivial,?_⟩
    have N4:=Nu.mv (w:=u4)
    refine rapp1 (u:=w) ⟨rfl,rfl⟩ (Ou.up (w':=u4)) S4 (by omega) λv5 u5 O5 f5 s5=>⟨Fr.mono f5 λ_ _ _=>trivial,?_⟩
    have N5:=N4.fro (Ou.up (w':=u4)) f5 (by decide)
    have q5:=O5.shape
    obtain⟨a5,c5,rfl⟩:=q5
    refine rsto (B:=N5) (vs:=[.slice a5 (vs'++[(⟨la,l'.length,lc⟩:SV)]).length c5]) rfl rfl rfl (sv1 _ _ _) λu6 N6 f6 _=>⟨Fr.mono f6 λ_ _ _=>trivial,?_⟩
    exact rA ⟨rfl,hka,a5,c5,vs'++[(⟨la,l'.length,lc⟩:SV)],N6,O5.frc f6 N5 (by decide),by simp [hl'],((Eu.up (w':=u4)).fro (Ou.up (w':=u4)) f5 (by decide)).frc f6 N5 (by decide),((Zu.mv (w:=u4)).fro (Ou.up (w':=u4)) f5 (by decide)).fr f6 hzo,⟨Fr.st (Le.e (a:=w) (b:=u5)) f6 nbo⟩⟩
   refine rcall zAy ?_
   rintro _ u2 ⟨rfl,d2⟩
   refine⟨Fr.mono d2.e λ_ _ _=>trivial,?_⟩
   refine⟨?_,?_⟩
   ·refine rld (B:=Nu.mv (w:=u2)) rfl ⟨Fr.refl _ _,?_⟩
    refine rcall (zAh ((V.rows.up (w':=u2)).2 k hka hkw) (hw _ (List.getElem_mem _)) (V.small.2.2 _ (List.getElem_mem _))) ?_
    rintro v u3 ⟨⟨l',hp',_,O3⟩,d3⟩
    refine⟨Fr.mono d3.e λ_ _ _=>trivial,?_⟩
    have q3:=O3.shape
    obtain⟨la,lc,rfl⟩:=q3
    refine rbs1 (⟨la,l'.length,lc⟩:SV) rfl rfl (by decide) λb6 u4 d4 _ S4=>⟨Fr.mono d4.e λ_ _ _=>trivial,?_⟩
    have N4:=Nu.mv (w:=u4)
    refine rapp1 (u:=w) ⟨rfl,rfl⟩ (Ou.up (w':=u4)) S4 (by omega) λv5 u5 O5 f5 s5=>⟨Fr.mono f5 λ_ _ _=>trivial,?_⟩
    have N5:=N4.fro (Ou.up (w':=u4)) f5 (by decide)
    have q5:=O5.shape
    obtain⟨a5,c5,rfl⟩:=q5
    refine rsto (B:=N5) (vs:=[.slice a5 (vs'++[(⟨la,l'.length,lc⟩:SV)]).length c5]) rfl rfl rfl (sv1 _ _ _) λu6 N6 f6 _=>⟨Fr.mono f6 λ_ _ _=>trivial,?_⟩
    exact rA ⟨rfl,hka,a5,c5,vs'++[(⟨la,l'.length,lc⟩:SV)],N6,O5.frc f6 N5 (by decide),by simp [hl'],((Eu.up (w':=u4)).fro (Ou.up (w':=u4)) f5 (by decide)).frc f6 N5 (by decide),((Zu.mv (w:=u4)).fro (Ou.up (w':=u4)) f5 (by decide)).fr f6 hzo,⟨Fr.st (Le.e (a:=w) (b:=u5)) f6 nbo⟩⟩
   refine rcall (zAh ((V.rows.up (w':=u2)).2 k hka hkw) (hw _ (List.getElem_mem _)) (V.small.2.2 _ (List.getElem_mem _))) ?_
   rintro v u3 ⟨⟨l',hp',_,O3⟩,d3⟩
   refine⟨Fr.mono d3.e λ_ _ _=>trivial,?_⟩
   have q3:=O3.shape
   obtain⟨la,lc,rfl⟩:=q3
   refine⟨?_,?_⟩
   ·refine rld (B:=Nu.mv (w:=u3)) rfl ⟨Fr.refl _ _,?_⟩
    refine rbs1 (⟨la,l'.length,lc⟩:SV) rfl rfl (by decide) λb6 u4 d4 _ S4=>⟨Fr.mono d4.e λ_ _ _=>trivial,?_⟩
    have N4:=Nu.mv (w:=u4)
    refine rapp1 (u:=w) ⟨rfl,rfl⟩ (Ou.up (w':=u4)) S4 (by omega) λv5 u5 O5 f5 s5=>⟨Fr.mono f5 λ_ _ _=>trivial,?_⟩
    have N5:=N4.fro (Ou.up (w':=u4)) f5 (by decide)
    have q5:=O5.shape
    obtain⟨a5,c5,rfl⟩:=q5
    refine rsto (B:=N5) (vs:=[.slice a5 (vs'++[(⟨la,l'.length,lc⟩:SV)]).length c5]) rfl rfl rfl (sv1 _ _ _) λu6 N6 f6 _=>⟨Fr.mono f6 λ_ _ _=>trivial,?_⟩
    exact rA ⟨rfl,hka,a5,c5,vs'++[(⟨la,l'.length,lc⟩:SV)],N6,O5.frc f6 N5 (by decide),by simp [hl'],((Eu.up (w':=u4)).fro (Ou.up (w':=u4)) f5 (by decide)).frc f6 N5 (by decide),((Zu.mv (w:=u4)).fro (Ou.up (w':=u4)) f5 (by decide)).fr f6 hzo,⟨Fr.st (Le.e (a:=w) (b:=u5)) f6 nbo⟩⟩
   refine rbs1 (⟨la,l'.length,lc⟩:SV) rfl rfl (by decide) λb6 u4 d4 _ S4=>⟨Fr.mono d4.e λ_ _ _=>trivial,?_⟩
   refine rld (B:=Nu.mv (w:=u4)) rfl ⟨Fr.refl _ _,?_⟩
   have N4:=Nu.mv (w:=u4)
   refine rapp1 (u:=w) ⟨rfl,rfl⟩ (Ou.up (w':=u4)) S4 (by omega) λv5 u5 O5 f5 s5=>⟨Fr.mono f5 λ_ _ _=>trivial,?_⟩
   have N5:=N4.fro (Ou.up (w':=u4)) f5 (by decide)
   have q5:=O5.shape
   obtain⟨a5,c5,rfl⟩:=q5
   refine rsto (B:=N5) (vs:=[.slice a5 (vs'++[(⟨la,l'.length,lc⟩:SV)]).length c5]) rfl rfl rfl (sv1 _ _ _) λu6 N6 f6 _=>⟨Fr.mono f6 λ_ _ _=>trivial,?_⟩
   exact rA ⟨rfl,hka,a5,c5,vs'++[(⟨la,l'.length,lc⟩:SV)],N6,O5.frc f6 N5 (by decide),by simp [hl'],((Eu.up (w':=u4)).fro (Ou.up (w':=u4)) f5 (by decide)).frc f6 N5 (by decide),((Zu.mv (w:=u4)).fro (Ou.up (w':=u4)) f5 (by decide)).fr f6 hzo,⟨Fr.st (Le.e (a:=w) (b:=u5)) f6 nbo⟩⟩
  ·refine rldG (ds:=enc (⟨g.n,⟨ea,es.length,ec⟩,⟨wa,vs'.length,wc⟩⟩:RGr)) (B:=Nu) rfl rfl (rsto (B:=Zu) (vs:=enc (⟨g.n,⟨ea,es.length,ec⟩,⟨wa,vs'.length,wc⟩⟩:RGr)) rfl rfl rfl (Enc.one _) λu2 Z2 f2 _=>?_)
   have Z2:Bk u2 bz (enc (⟨g.n,⟨ea,es.length,ec⟩,⟨wa,vs'.length,wc⟩⟩:RGr)) E.qf:=Z2
   refine rresG (B:=Z2) rfl ?_
   exact⟨⟨⟨g.n,⟨ea,es.length,ec⟩,⟨wa,vs'.length,wc⟩⟩,es,rfl,hp,hs,Eu.frc f2 Zu (by decide),rfl⟩,⟨Fr.st su.e f2 λi hi=>by subst hi;omega⟩⟩
def trnE (e:EdN):EdN:=⟨e.t,e.f⟩
theorem zOC{a b:EdN}(h:trnE a=trnE b):a=b:=by cases a;cases b;simp [trnE] at h;simp [h.1,h.2]
def trnG (g:GrD):GrD:=⟨g.n,g.es.map trnE,g.ws⟩
theorem zOB(h:GrChk g):GrChk (trnG g):=⟨h.n1,h.n2,by simpa [trnG] using h.ne,h.nw,λe he=>by
 have q_:=List.mem_map.1 he
 obtain⟨e0,h0,rfl⟩:=q_
 exact⟨(h.ed e0 h0).2,(h.ed e0 h0).1⟩,h.word⟩
theorem zMu{l:List EdN}(h:l.Nodup):(l.map trnE).Nodup:=by
 rw [List.nodup_iff_pairwise_ne] at h ⊢
 rw [List.pairwise_map]
 exact h.imp λhne e=>hne (zOC e)
theorem zNn{l:List EdN}(h:k<l.length):((l.take k).map trnE++l.drop k).set k (trnE l[k])=(l.take (k+1)).map trnE++l.drop (k+1):=by
 have hl:((l.take k).map trnE).length=k:=by rw [List.length_map,List.length_take];omega
 rw [List.set_append_right _ _ (by omega),hl,Nat.sub_self,List.drop_eq_getElem_cons h,List.set_cons_zero,zAa h,List.map_append]
 simp
theorem zGK{x:RGr}{vs:List SV}(V:GrV w x g vs)(hc:GrChk g)(hd:g.es.Nodup)(hw:∀l∈g.ws,l.Nodup):Sp PP F.d4 #[agg x] w (NorT (trnG g) w):=by
 have hne:=hc.ne
 refine en TBok rfl ?_
 refine rbx λbx w1 n1 B1=>ral λbz w2 n2 z2=>rld (B:=B1) rfl (rcall (zEn (V.es.up (w':=w2)) V.small.1) ?_)
 rintro v w3 ⟨O3,e3⟩
 have hbx:=n1.b;have hsx:=n1.s;have hbz:=n2.b;have hsz:=n2.s
 have Z3:Bk w3 bz (enc zGr) E.qf:=z2.mv
 have B3:Bk w3 bx (enc x) E.qf:=B1.mv
 clear z2 B1
 have O3:=O3.mono (Le.size (a:=w) (b:=w2))
 have q_:=O3.shape
 obtain⟨a3,c3,rfl⟩:=q_
 refine rsto (B:=B3) (vs:=[.slice a3 g.es.length c3]) rfl rfl rfl (sv1 _ _ _) λw4 B4 f4 _=>?_
 have B4:Bk w4 bx [.int .i64 x.n,.slice a3 g.es.length c3,.slice x.ws.a x.ws.n x.ws.c] E.qf:=B4
 have hzx:¬bz=bx:=by omega
 have nbx:∀i,i=bx->w.heap.size<=i:=by omega
 have s4:Stp w w4:=⟨Fr.st (Le.e (a:=w) (b:=w3)) f4 nbx⟩
 have O4:=O3.frc f4 B3 (by decide)
 have Z4:=Z3.fr f4 hzx
 refine rld (B:=B4) rfl ?_
 refine cnt TBok 13 [4,5] 13 g.es.length (λk u=>Own w.heap.size E.qr u (.slice a3 g.es.length c3) ((g.es.take k).map trnE++g.es.drop k)/\Bk u bx [.int .i64 x.n,.slice a3 g.es.length c3,.slice x.ws.a x.ws.n x.ws.c] E.qf/\Bk u bz (enc zGr) E.qf/\Stp w u) rfl rfl
  ⟨by simpa using O4,B4,Z4,s4⟩ ?_
 rintro k gf u hk ⟨O,B,Z,su⟩
 have hll:((g.es.take k).map trnE++g.es.drop k).length=g.es.length:=by simp;omega
 refine ite (λhlt=>?_) (λhge=>?_)
 ·have hka:k<g.es.length:=by omega
  have hget:((g.es.take k).map trnE++g.es.drop k)[k]? = some g.es[k]:=by
   have hl1:((g.es.take k).map trnE).length=k:=by rw [List.length_map,List.length_take];omega
   rw [List.getElem?_append_right (by omega),hl1,Nat.sub_self,List.getElem?_drop]
   exact List.getElem?_eq_getElem hka
  refine rixO rfl O hget λg1 hg1 _ A1=>rloadA A1 rfl (ral λb3 u3 n3 z3=>rsto (B:=z3) (vs:=enc g.es[k]) rfl rfl rfl (Enc.one _) λu4 X4 f4' _=>?_)
  have X4:Bk u4 b3 (enc g.es[k]) E.qr:=X4
  have d4:Stp u u4:=⟨Fr.st Le.e f4' λi hi=>by subst hi;exact n3.lo⟩
  refine rld (B:=B.mv (w:=u4)) rfl (rld (B:=X4) rfl (rld (B:=X4) rfl ?_))
  refine rbuild (cs:=enc (trnE g.es[k])) rfl (rixO rfl (O.up (w':=u4)) hget λg2 hg2 _ A2=>rstO (u:=w) rfl (trnE g.es[k]) (O.up (w':=u4)) hg2 (by omega) rfl λu5 O5 f5 s5 _=>?_)
  rw [zNn hka] at O5
  exact rA ⟨rfl,hka,O5,(B.mv (w:=u4)).fro (O.up (w':=u4)) f5 (by decide),(Z.mv (w:=u4)).fro (O.up (w':=u4)) f5 (by decide),stp⟩
 ·have q_:k=g.es.length:=by omega
  obtain rfl:=q_
  rw [List.take_length,List.drop_length,List.append_nil] at O
  have V':GrV u ⟨x.n,⟨a3,g.es.length,c3⟩,x.ws⟩ (trnG g) vs:=⟨V.n,O.sl,V.ws.up,V.rows.up,⟨by simpa [trnG] using V.small.1,V.small.2.1,V.small.2.2⟩,V.words⟩
  refine rldG (ds:=enc (⟨x.n,⟨a3,g.es.length,c3⟩,x.ws⟩:RGr)) (B:=B) rfl rfl (rcall (zGJ V' (zOB hc) (zMu hd) hw) ?_)
  rintro _ u2 ⟨⟨y,es,rfl,hp,hs,hS,hyn⟩,e2⟩
  have Z2:=Z.mv (w:=u2)
  refine rsto (B:=Z2) (vs:=enc y) rfl rfl rfl (Enc.one _) λu3 Z3 f3 _=>?_
  have Z3:Bk u3 bz (enc y) E.qf:=Z3
  refine rresG (B:=Z3) rfl ?_
  exact⟨⟨y,es,rfl,hp,hs,(hS.frc f3 Z2 (by decide)).mono su.e.size,hyn⟩,⟨Fr.st (Le.e (a:=w) (b:=u2)) f3 λi hi=>by subst hi;omega⟩⟩
def cLt (l:List EdN) (v:Nat):Nat:=(l.filter λe=>decide (e.f<v)).length
def cAt (l:List EdN) (v:Nat):Nat:=(l.filter λe=>decide (e.f+1=v)).length
def offL (n:Nat) (l:List EdN):List Int:=(List.range (n+1)).map λv=>(cLt l v:Int)
def toL (l:List EdN):List Int:=l.map λe=>(e.t:Int)
theorem zMJ(l:List EdN)(e:EdN)(v:Nat):cAt (l++[e]) v=cAt l v+if e.f+1=v then 1 else 0:=by
 unfold cAt;rw [List.filter_append,List.length_append]
 by_cases h:e.f+1=v <;> simp [h]
theorem zFZ(l:List EdN)(v:Nat):cLt l (v+1)=cLt l v+cAt l (v+1):=by
 unfold cLt cAt
 induction l with
 |nil=>rfl
 |cons e r ih =>
  simp only [List.filter_cons]
  by_cases h1:e.f<v
  ·have h2:e.f<v+1:=by omega
   have h3:¬e.f+1=v+1:=by omega
   simp only [h1,h2,h3,decide_true,decide_false,if_true,List.length_cons]
   simp only [Bool.false_eq_true,if_false];omega
  ·by_cases h4:e.f=v
   ·have h2:e.f<v+1:=by omega
    have h3:e.f+1=v+1:=by omega
    simp only [h1,h2,h3,decide_true,decide_false,if_true,List.length_cons]
    simp only [Bool.false_eq_true,if_false];omega
   ·have h2:¬e.f<v+1:=by omega
    have h3:¬e.f+1=v+1:=by omega
    simp only [h1,h2,h3,decide_false,Bool.false_eq_true,if_false];omega
theorem zF0(l:List EdN):cLt l 0=0:=by simp [cLt]
theorem zMK(l:List EdN):cAt l 0=0:=by
 unfold cAt
 rw [List.filter_eq_nil_iff.2 (by simp)];rfl
theorem cLt_le(l:List EdN)(v:Nat):cLt l v<=l.length:=List.length_filter_le _ _
theorem cAt_le(l:List EdN)(v:Nat):cAt l v<=l.length:=List.length_filter_le _ _
theorem zBM{α:Type}{f:Nat->α}(h:k<n):((List.range n).map f)[k]? = some (f k):=by simp [h]
theorem zE5{α:Type}{f:Nat->α}{y:α}(h:k<n):((List.range n).map f).set k y=(List.range n).map λj=>if j=k then y else f j:=by
 apply List.ext_getElem?
 intro i
 rw [List.getElem?_set]
 by_cases hi:k=i
 ·subst hi;simp [h]
 ·simp only [hi,if_false,List.getElem?_map]
  by_cases hn:i<n
  ·simp [hn,Ne.symm hi]
  ·simp [hn]
theorem zFa{c:Nat}{l:List EdN}(h:SlF w (.slice a m c) l)(hn:n<=200)(hl:l.length<=2000)(hf:∀e∈l,e.f<n):
  Sp PP F.qak #[.int .i64 (n:Int),.slice a m c] w λv w'=>(∃vo vt,v=.tuple #[vo,vt]/\Own w.heap.size E.qa w' vo (offL n l)/\Own w.heap.size E.qa w' vt (toL l))/\Stp w w':=by
 have q_:=h.len
 obtain rfl:=q_
 refine en TBok rfl ?_
 refine rarE (y:=((n+1:Nat):Int)) (by omega) (by omega) (rmk (0:Int) rfl rfl (by omega) λgo w1 O1 s1 hgo=>?_)
 have hlt1:=O1.lt (by intro h0;have:=congrArg List.length h0;simp at this)
 obtain⟨gg,hgg,_,hgl⟩:=hlt1
 cases hgg
 refine cnt1 TBok 14 [7] 5 14 l.length (λk v u=>Own w.heap.size E.qa u (.slice (some ⟨go,0,none⟩) (n+1) (n+1)) ((List.range (n+1)).map λj=>(cAt (l.take k) j:Int))/\Own w.heap.size E.qa u v (toL (l.take k))/\(∀g,Value.blk v=some g->g≠go)/\go<u.heap.size/\Stp w u) rfl rfl
  ⟨by rw [show ((List.range (n+1)).map λj=>(cAt (l.take 0) j:Int))=List.replicate (n+1) 0 from by rw [List.eq_replicate_iff];refine⟨by simp,λb hb=>?_⟩;obtain⟨j,_,rfl⟩:=List.mem_map.1 hb;rfl];exact O1,Own.nil _ _ _,(λg hg=>by cases hg),hgl,stp⟩ ?_
 rintro k v gf u hk ⟨O,Ot,hne,hgu,su⟩
 refine ite (λhlt=>?_) (λhge=>?_)
 ·have hka:k<l.length:=by omega
  have hfk:=hf _ (List.getElem_mem hka)
  have hck:=cAt_le (l.take k) (l[k].f+1)
  rw [List.length_take] at hck
  refine rix (h.up (w':=u)) (x:=l[k]) (by simp) λb2 o2 A2=>rloadA A2 rfl (ral λb3 u3 n3 z3=>rsto (B:=z3) (vs:=enc l[k]) rfl rfl rfl (Enc.one _) λu4 X4 f4' _=>?_)
  have X4:Bk u4 b3 (enc l[k]) E.qr:=X4
  have d4:Stp u u4:=⟨Fr.st Le.e f4' λi hi=>by subst hi;exact n3.lo⟩
  refine rld (B:=X4) rfl (rarE (y:=((l[k].f+1:Nat):Int)) (by omega) (by omega) (rixO rfl (O.up (w':=u4)) (i:=l[k].f+1) (x:=(cAt (l.take k) (l[k].f+1):Int)) (zBM (by omega)) λg1 hg1 _ A1=>rload1 (A1.cell0 rfl) (rarE (y:=((cAt (l.take k) (l[k].f+1)+1:Nat):Int)) (by omega) (by omega) (rixO rfl (O.up (w':=u4)) (i:=l[k].f+1) (x:=(cAt (l.take k) (l[k].f+1):Int)) (zBM (by omega)) λg2 hg2 _ A2=>rstO (u:=w) rfl ((cAt (l.take k) (l[k].f+1)+1:Nat):Int) (O.up (w':=u4)) hg2 (by simp;omega) rfl λu5 O5 f5 s5 _=>?_))))
  have X5:=X4.fro (O.up (w':=u4)) f5 (by decide)
  have T5:=(Ot.up (w':=u4)).fr f5 (λb _ hb hd=>hne b hb (Option.some.inj hd.2.1).symm)
  rw [zE5 (by omega)] at O5
  refine rld (B:=X5) rfl (rbs1 (l[k].t:Int) rfl rfl (by decide) λb6 u6 e6 _ S6=>?_)
  have hB6:w.heap.size<=u6.heap.size:=Le.size
  refine rappD ⟨rfl,rfl⟩ (T5.up (w':=u6)) S6 (by simp) hB6 (by simp [toL];omega) λv7 u7 O7 f7 hv7=>?_
  have s7:Stw w u6 u7:=zAz f7
  have zz:u.heap.size<=u6.heap.size:=by have h1:=d4.e.size;have h2:=f5.size;have h3:=e6.e.size;omega
  have O7':=(O5.up (w':=u6)).fr f7 (λb _ hb hd=>hne b hd.2.1 (Option.some.inj hb).symm)
  have e1:toL (l.take (k+1))=toL (l.take k)++[(l[k].t:Int)]:=by rw [zAa hka];unfold toL;rw [List.map_append];rfl
  rw [<-e1] at O7
  have e2:((List.range (n+1)).map λj=>if j=l[k].f+1 then ((cAt (l.take k) (l[k].f+1)+1:Nat):Int) else (cAt (l.take k) j:Int))=(List.range (n+1)).map λj=>(cAt (l.take (k+1)) j:Int):=by
   apply List.map_congr_left
   intro j _
   rw [zAa hka,zMJ]
   by_cases hj:l[k].f+1=j
   ·subst hj;simp
   ·simp [hj,Ne.symm hj]
  rw [e2] at O7'
  have z7:=f7.size
  have hne7:∀g,Value.blk v7=some g->g≠go:=λg hg=>by
   rcases hv7 with h7|h7
   ·rw [h7] at hg;exact hne g hg
   ·rw [h7] at hg;cases hg;omega
  exact rA ⟨rfl,hka,O7',O7,hne7,by omega,stp⟩
 have q_:k=l.length:=by omega
 obtain rfl:=q_
 rw [List.take_length] at O Ot
 refine cnt TBok 33 [8] 33 n (λk u'=>Own w.heap.size E.qa u' (.slice (some ⟨go,0,none⟩) (n+1) (n+1)) ((List.range (n+1)).map λj=>if j<=k then (cLt l j:Int) else (cAt l j:Int))/\Own w.heap.size E.qa u' v (toL l)/\Stp w u') rfl rfl ⟨?_,Ot,su⟩ ?_
 ·have e0:((List.range (n+1)).map λj=>if j<=0 then (cLt l j:Int) else (cAt l j:Int))=(List.range (n+1)).map λj=>(cAt l j:Int):=by
   apply List.map_congr_left
   intro j _
   by_cases hj:j<=0
   ·have q_:j=0:=by omega
    obtain rfl:=q_
    simp [zF0,zMK]
   ·simp [hj]
  rw [e0];exact O
 rintro k gf2 u2 hk2 ⟨O2,T2,s2⟩
 refine ite (λhlt=>?_) (λhge=>?_)
 ·have hkn:k<n:=by omega
  have h1:=cLt_le l k;have h2:=cAt_le l (k+1);have h3:=zFZ l k;have h4:=cLt_le l (k+1)
  have hg1:((List.range (n+1)).map λj=>if j<=k then (cLt l j:Int) else (cAt l j:Int))[k+1]? = some (cAt l (k+1):Int):=by rw [zBM (by omega),if_neg (by omega)]
  have hg0:((List.range (n+1)).map λj=>if j<=k then (cLt l j:Int) else (cAt l j:Int))[k]? = some (cLt l k:Int):=by rw [zBM (by omega),if_pos (by omega)]
  refine drawRT TBok mixed (λ_=>True) (.one 0 (.one 1 (.one 2 (.one 3 (.one 5 (.one 6 (.one 7 (.duo 4 (.lone 8 (.one 9 (.one 10 (.one 11 .nil)))) 8 (.lone 4 (.one 9 (.one 10 (.one 11 .nil)))))))))))) (by kernel_rfl) λu3 e3 _=>?_
  have O3:=O2.up (w':=u3)
  refine rarE (y:=((k+1:Nat):Int)) (by omega) (by omega) (tixO rfl O3 hg1 λg3 hg3 _ A3=>tixO rfl O3 hg0 λg4 hg4 _ A4=>?_)
  refine⟨?_,?_⟩
  ·refine rload1 (A3.cell0 rfl) ⟨Fr.refl _ _,?_⟩
   refine rload1 (A4.cell0 rfl) ⟨Fr.refl _ _,?_⟩
   refine rarE (y:=((cLt l (k+1):Nat):Int)) (by omega) (by omega) (tixO rfl O3 hg1 λg5 hg5 _ A5=>rstO (u:=w) rfl (cLt l (k+1):Int) O3 hg5 (by simp;omega) rfl λu5 O5 f5 s5 _=>⟨Fr.mono f5 λ_ _ _=>trivial,?_⟩)
   have T5:=(T2.up (w':=u3)).fr f5 (λb _ hb hd=>hne b hb (Option.some.inj hd.2.1).symm)
   rw [zE5 (by omega)] at O5
   have e2:((List.range (n+1)).map λj=>if j=k+1 then (cLt l (k+1):Int) else if j<=k then (cLt l j:Int) else (cAt l j:Int))=(List.range (n+1)).map λj=>if j<=k+1 then (cLt l j:Int) else (cAt l j:Int):=by
    apply List.map_congr_left
    intro j _
    by_cases hj:j=k+1
    ·subst hj;simp
    ·by_cases hj2:j<=k
     ·rw [if_neg hj,if_pos hj2,if_pos (by omega)]
     ·rw [if_neg hj,if_neg hj2,if_neg (by omega)]
   rw [e2] at O5
   exact rA ⟨rfl,hkn,O5,T5,stp⟩
  ·refine rload1 (A4.cell0 rfl) ⟨Fr.refl _ _,?_⟩
   refine rload1 (A3.cell0 rfl) ⟨Fr.refl _ _,?_⟩
   refine rarE (y:=((cLt l (k+1):Nat):Int)) (by omega) (by omega) (tixO rfl O3 hg1 λg5 hg5 _ A5=>rstO (u:=w) rfl (cLt l (k+1):Int) O3 hg5 (by simp;omega) rfl λu5 O5 f5 s5 _=>⟨Fr.mono f5 λ_ _ _=>trivial,?_⟩)
   have T5:=(T2.up (w':=u3)).fr f5 (λb _ hb hd=>hne b hb (Option.some.inj hd.2.1).symm)
   rw [zE5 (by omega)] at O5
   have e2:((List.range (n+1)).map λj=>if j=k+1 then (cLt l (k+1):Int) else if j<=k then (cLt l j:Int) else (cAt l j:Int))=(List.range (n+1)).map λj=>if j<=k+1 then (cLt l j:Int) else (cAt l j:Int):=by
    apply List.map_congr_left
    intro j _
    by_cases hj:j=k+1
    ·subst hj;simp
    ·by_cases hj2:j<=k
     ·rw [if_neg hj,if_pos hj2,if_pos (by omega)]
     ·rw [if_neg hj,if_neg hj2,if_neg (by omega)]
   rw [e2] at O5
   exact rA ⟨rfl,hkn,O5,T5,stp⟩
 ·have q_:k=n:=by omega
  obtain rfl:=q_
  refine⟨⟨_,_,rfl,?_,T2⟩,stp⟩
  have e3:offL k l=(List.range (k+1)).map λj=>if j<=k then (cLt l j:Int) else (cAt l j:Int):=by
   apply List.map_congr_left
   intro j hj
   rw [if_pos (by have:=List.mem_range.1 hj;omega)]
  rw [e3];exact O2
structure RRow where
 off:SV
 to:SV
 rof:SV
 rev:SV
instance:Enc RRow:=⟨4,λx=>[.slice x.off.a x.off.n x.off.c,.slice x.to.a x.to.n x.to.c,.slice x.rof.a x.rof.n x.rof.c,.slice x.rev.a x.rev.n x.rev.c],λ_=>rfl,by intro x u hu;simp at hu;rcases hu with rfl|rfl|rfl|rfl <;> rfl,by decide⟩
def RevOf (g:GrD) (r:List EdN):Prop:=r.Perm (g.es.map trnE)/\r.Pairwise ltE
structure RowO (B:Nat) (w:World) (x:RRow) (g:GrD) (r:List EdN):Prop where
 rev':RevOf g r
 off:Own B E.qa w (.slice x.off.a x.off.n x.off.c) (offL g.n g.es)
 to:Own B E.qa w (.slice x.to.a x.to.n x.to.c) (toL g.es)
 rof:Own B E.qa w (.slice x.rof.a x.rof.n x.rof.c) (offL g.n r)
 rev:Own B E.qa w (.slice x.rev.a x.rev.n x.rev.c) (toL r)
theorem zL5{l:List EdN}(h:l.Pairwise ltE):l.Nodup:=by
 rw [List.nodup_iff_pairwise_ne];exact h.imp λ{a b} h e=>by subst e;unfold ltE at h;omega
theorem zL6{l:List ByteArray}(h:l.Pairwise ltW):l.Nodup:=by
 rw [List.nodup_iff_pairwise_ne];exact h.imp λ{a b} h e=>by subst e;exact List.lt_irrefl _ h
theorem zE8{x:RGr}{vs:List SV}(V:GrV w x g vs)(hg:GrIs g):Sp PP F.qah #[agg x] w λv w'=>(∃y r,v=.tuple #[agg (y:RRow),.int .i64 0]/\RowO w.heap.size w' y g r)/\Stp w w':=by
 have hc:=hg.chk
 have hcn:=hc.n2;have hce:=hc.ne
 refine en TBok rfl ?_
 refine rbx λbx w1 n1 B1=>ral λbz w2 n2 z2=>rldG (ds:=enc x) (B:=B1) rfl rfl (rcall (zDh (V.up (w':=w2))) ?_)
 rintro _ w3 ⟨⟨rfl,_⟩|⟨rfl,hno⟩,e3⟩
 case' inr=>exact absurd hg hno
 refine rldG (ds:=enc x) (B:=B1) rfl rfl (rcall (zGK (V.up (w':=w3)) hc (zL5 hg.er) (λl hl=>zL6 (hg.wr l hl))) ?_)
 rintro _ w4 ⟨⟨y,r,rfl,hp,hs,O4,hyn⟩,e4⟩
 have hbx:=n1.b;have hsx:=n1.s;have hbz:=n2.b;have hsz:=n2.s
 have z04:=Le.size (a:=w2) (b:=w4)
 have Z4:Bk w4 bz (enc (⟨⟨none,0,0⟩,⟨none,0,0⟩,⟨none,0,0⟩,⟨none,0,0⟩⟩:RRow)) E.qq:=z2.mv
 have O4:=O4.mono (Le.size (a:=w) (b:=w3))
 clear z2
 refine ral λbt w5 n5 z5=>rsto (B:=z5) (vs:=enc y) rfl rfl rfl (Enc.one _) λw6 T6 f6 _=>?_
 have T6:Bk w6 bt (enc y) E.qf:=T6
 have s6:Stp w4 w6:=⟨Fr.st Le.e f6 λi hi=>by subst hi;exact n5.lo⟩
 clear z5
 refine ral λbr w7 n7 z7=>?_
 have R7:Bk w7 br (enc (⟨⟨none,0,0⟩,⟨none,0,0⟩,⟨none,0,0⟩,⟨none,0,0⟩⟩:RRow)) E.qq:=z7
 clear z7
 have hbr:=n7.b
 have z06:=Le.size (a:=w4) (b:=w6)
 have z56:=f6.size
 have hst:=n5.s
 have hbt:=n5.b
 refine rld (B:=B1) rfl (rld (B:=B1) rfl ?_)
 have L1:=zFa (n:=g.n) (l:=g.es) (w:=w7) V.es.up hcn hce (λe he=>(hc.ed e he).1)
 rw [<-V.n] at L1
 refine rcall L1 ?_
 rintro _ w8 ⟨⟨vo,vt,rfl,Oo,Ot⟩,e8⟩
 have nbr:∀i,i=br->w.heap.size<=i:=by omega
 have Oo:=Oo.mono (Le.size (a:=w) (b:=w7));have Ot:=Ot.mono (Le.size (a:=w) (b:=w7))
 have q_:=Oo.shape
 obtain⟨oa,oc,rfl⟩:=q_
 have q_:=Ot.shape
 obtain⟨ta,tc,rfl⟩:=q_
 refine rsto (B:=R7.mv (w:=w8)) (vs:=[.slice oa (offL g.n g.es).length oc]) rfl rfl rfl (sv1 _ _ _) λw9 R9 f9 _=>?_
 have s9:Stp w w9:=⟨Fr.st (Le.e (a:=w) (b:=w8)) f9 nbr⟩
 have k9:=R7.mv (w:=w8)
 have Oo9:=Oo.frc f9 k9 (by decide);have Ot9:=Ot.frc f9 k9 (by decide);have O9:=(O4.up (w':=w8)).frc f9 k9 (by decide)
 have T9:=(T6.mv (w:=w8)).fr f9 (by omega);have Z9:=(Z4.mv (w:=w8)).fr f9 (by omega);have B9:=(B1.mv (w:=w8)).fr f9 (by omega)
 refine rsto (B:=R9) (vs:=[.slice ta (toL g.es).length tc]) rfl rfl rfl (sv1 _ _ _) λw10 R10 f10 _=>?_
 have R10:Bk w10 br [.slice oa (offL g.n g.es).length oc,.slice ta (toL g.es).length tc,.slice none 0 0,.slice none 0 0] E.qq:=R10
 have s10:Stp w w10:=⟨Fr.st s9.e f10 nbr⟩
 have Oo10:=Oo9.frc f10 R9 (by decide);have Ot10:=Ot9.frc f10 R9 (by decide);have O10:=O9.frc f10 R9 (by decide)
 have T10:=T9.fr f10 (by omega);have Z10:=Z9.fr f10 (by omega);have B10:=B9.fr f10 (by omega)
 clear R9 B1 T6 Z4 R7 B9 T9 Z9
 refine rld (B:=B10) rfl (rld (B:=T10) rfl ?_)
 have hrl:r.length<=2000:=by have:=hp.length_eq;simp [trnG] at this;omega
 have L2:=zFa (n:=g.n) (l:=r) (w:=w10) O10.sl hcn hrl (λe he=>by
  have:=hp.mem_iff.1 he
  have q_:=List.mem_map.1 this
  obtain⟨e0,h0,rfl⟩:=q_
  exact(hc.ed e0 h0).2)
 rw [<-V.n] at L2
 refine rcall L2 ?_
 rintro _ w11 ⟨⟨vp,vq,rfl,Op,Oq⟩,e11⟩
 have Op:=Op.mono (Le.size (a:=w) (b:=w10));have Oq:=Oq.mono (Le.size (a:=w) (b:=w10))
 have q_:=Op.shape
 obtain⟨pa,pc,rfl⟩:=q_
 have q_:=Oq.shape
 obtain⟨qa,qc,rfl⟩:=q_
 have k11:=R10.mv (w:=w11)
 refine rsto (B:=k11) (vs:=[.slice pa (offL g.n r).length pc]) rfl rfl rfl (sv1 _ _ _) λw12 R12 f12 _=>?_
 have s12:Stp w w12:=⟨Fr.st (Le.e (a:=w) (b:=w11)) f12 nbr⟩
 have Z12:=(Z10.mv (w:=w11)).fr f12 (by omega)
 refine rsto (B:=R12) (vs:=[.slice qa (toL r).length qc]) rfl rfl rfl (sv1 _ _ _) λw13 R13 f13 _=>?_
 have s13:Stp w w13:=⟨Fr.st s12.e f13 nbr⟩
 have Z13:=Z12.fr f13 (by omega)
 have R13:Bk w13 br (enc (⟨⟨oa,(offL g.n g.es).length,oc⟩,⟨ta,(toL g.es).length,tc⟩,⟨pa,(offL g.n r).length,pc⟩,⟨qa,(toL r).length,qc⟩⟩:RRow)) E.qq:=R13
 refine rldG (ds:=enc (⟨⟨oa,(offL g.n g.es).length,oc⟩,⟨ta,(toL g.es).length,tc⟩,⟨pa,(offL g.n r).length,pc⟩,⟨qa,(toL r).length,qc⟩⟩:RRow)) (B:=R13) rfl rfl (rsto (B:=Z13) (vs:=enc (⟨⟨oa,(offL g.n g.es).length,oc⟩,⟨ta,(toL g.es).length,tc⟩,⟨pa,(offL g.n r).length,pc⟩,⟨qa,(toL r).length,qc⟩⟩:RRow)) rfl rfl rfl (Enc.one _) λw14 Z14 f14 _=>?_)
 have Z14:Bk w14 bz (enc (⟨⟨oa,(offL g.n g.es).length,oc⟩,⟨ta,(toL g.es).length,tc⟩,⟨pa,(offL g.n r).length,pc⟩,⟨qa,(toL r).length,qc⟩⟩:RRow)) E.qq:=Z14
 refine rresG (B:=Z14) rfl ?_
 refine⟨⟨⟨⟨oa,(offL g.n g.es).length,oc⟩,⟨ta,(toL g.es).length,tc⟩,⟨pa,(offL g.n r).length,pc⟩,⟨qa,(toL r).length,qc⟩⟩,r,rfl,⟨hp,hs⟩,?_,?_,?_,?_⟩,⟨Fr.st s13.e f14 λi hi=>by omega⟩⟩
 ·exact(((Oo10.up (w':=w11)).frc f12 k11 (by decide)).frc f13 R12 (by decide)).frc f14 Z13 (by decide)
 ·exact(((Ot10.up (w':=w11)).frc f12 k11 (by decide)).frc f13 R12 (by decide)).frc f14 Z13 (by decide)
 ·exact((Op.frc f12 k11 (by decide)).frc f13 R12 (by decide)).frc f14 Z13 (by decide)
 ·exact((Oq.frc f12 k11 (by decide)).frc f13 R12 (by decide)).frc f14 Z13 (by decide)
end Go.W
namespace Go.W
open Go
variable {B hi i j k m n n2:Nat} {D:Nat -> Prop} {P:Program} {a a2:Option Addr} {g:GrD} {ps:List Int} {q:QyD} {s:List UInt8} {u u' w w' w1 w2:World}
structure RowI (n:Nat) (l:List EdN):Prop where
 n1:1<=n
 n2:n<=200
 lt:∀e∈l,e.f<n/\e.t<n
 ris:l.Pairwise ltE
 len:l.length<=2000
def atV (l:List EdN) (v:Nat):List EdN:=l.filter λe=>decide (e.f=v)
def rowN (l:List EdN) (v:Nat):List Nat:=(atV l v).map (·.t)
theorem zNM(l:List EdN)(v:Nat):(atV l v).length=cAt l (v+1):=by
 unfold atV cAt
 congr 1
 apply List.filter_congr
 intro e _
 simp
theorem zGp:∀{l:List EdN},l.Pairwise ltE->∀v,l.drop (cLt l v)=atV l v++l.filter (λe=>decide (v<e.f))/\l.take (cLt l v)=l.filter λe=>decide (e.f<v)
 |[],_,v=>by simp [atV,cLt]
 |e::r,h,v=>by
  rw [List.pairwise_cons] at h
  have ih:=zGp h.2 v
  have hge:∀x∈r,e.f<=x.f:=λx hx=>by have:=h.1 x hx;unfold ltE at this;omega
  by_cases h1:e.f<v
  ·have e1:cLt (e::r) v=cLt r v+1:=by unfold cLt;rw [List.filter_cons,if_pos (by simpa using h1),List.length_cons]
   rw [e1]
   have e2:atV (e::r) v=atV r v:=by unfold atV;rw [List.filter_cons,if_neg (by simp;omega)]
   rw [e2,List.filter_cons,if_neg (by simp;omega),List.filter_cons,if_pos (by simpa using h1)]
   exact⟨by simpa using ih.1,by simpa using ih.2⟩
  ·have e1:cLt (e::r) v=0:=by
    unfold cLt
    rw [List.length_eq_zero_iff,List.filter_eq_nil_iff]
    intro x hx
    have q_:=List.mem_cons.1 hx
    rcases q_ with rfl|hx
    ·simpa using h1
    ·have:=hge x hx;simp;omega
   have e0:cLt r v=0:=by
    unfold cLt
    rw [List.length_eq_zero_iff,List.filter_eq_nil_iff]
    intro x hx
    have:=hge x hx;simp;omega
   rw [e0,List.drop_zero] at ih
   rw [e1,List.drop_zero,List.take_zero]
   refine⟨?_,?_⟩
   ·by_cases h2:e.f=v
    ·have e3:atV (e::r) v=e::atV r v:=by unfold atV;rw [List.filter_cons,if_pos (by simpa using h2)]
     rw [e3,List.filter_cons,if_neg (by simp;omega),List.cons_append,<-ih.1]
    ·have e3:atV (e::r) v=[]:=by
      unfold atV
      rw [List.filter_eq_nil_iff]
      intro x hx
      have q_:=List.mem_cons.1 hx
      rcases q_ with rfl|hx
      ·simpa using h2
      ·have:=hge x hx;simp;omega
     have e4:(e::r).filter (λe=>decide (v<e.f))=e::r:=by
      rw [List.filter_eq_self]
      intro x hx
      have q_:=List.mem_cons.1 hx
      rcases q_ with rfl|hx
      ·simp;omega
      ·have:=hge x hx;simp;omega
     rw [e3,e4];rfl
   ·symm
    rw [List.filter_eq_nil_iff]
    intro x hx
    have q_:=List.mem_cons.1 hx
    rcases q_ with rfl|hx
    ·simpa using h1
    ·have:=hge x hx;simp;omega
theorem seg_eq{l:List EdN}(h:l.Pairwise ltE)(v:Nat):(l.drop (cLt l v)).take (cLt l (v+1) - cLt l v)=atV l v:=by
 have h1:=(zGp h v).1
 have h2:=zFZ l v
 have h3:=zNM l v
 rw [h1,show cLt l (v+1) - cLt l v=(atV l v).length by omega,List.take_left]
theorem at_get{l:List EdN}(h:l.Pairwise ltE){v:Nat}(hj:j<(atV l v).length):l[cLt l v+j]? = some (atV l v)[j]/\(atV l v)[j].f=v:=by
 have h1:=(zGp h v).1
 refine⟨?_,?_⟩
 ·rw [<-List.getElem?_drop,h1,List.getElem?_append_left hj,List.getElem?_eq_getElem hj]
 ·have:=List.getElem_mem hj
  have h2:=(List.mem_filter.1 this).2
  exact of_decide_eq_true h2
theorem zKD{l:List EdN}(h:∀e∈l,e.f<n):cLt l n=l.length:=by
 unfold cLt
 rw [List.filter_eq_self.2 λe he=>by simpa using h e he]
theorem zAk{v:Nat}{l:List EdN}(h:v<=n):(offL n l)[v]? = some (cLt l v:Int):=zBM (by omega)
theorem zAM(n:Nat)(l:List EdN):(offL n l).length=n+1:=by simp [offL]
theorem zA7(l:List EdN):(toL l).length=l.length:=by simp [toL]
theorem zDG{l:List EdN}(h:l.Pairwise ltE)(v:Nat):((toL l).drop (cLt l v)).take (cLt l (v+1) - cLt l v)=toL (atV l v):=by
 unfold toL
 rw [<-List.map_drop,<-List.map_take,seg_eq h]
theorem zBc(l:List EdN)(v:Nat):cLt l v<=cLt l (v+1):=by have:=zFZ l v;omega
theorem zJG(g:GrD)(v:Nat):nbL g 0 v=rowN g.es v:=by
 unfold nbL rowN atV
 rw [if_neg (by decide)]
 congr 1
theorem zMn:∀{a b:List Nat},a.Pairwise (· < ·)->b.Pairwise (· < ·)->(∀x,x∈a↔x∈b)->a=b:=by
 intro a b ha hb h
 have hna:a.Nodup:=by rw [List.nodup_iff_pairwise_ne];exact ha.imp λh=>by omega
 have hnb:b.Nodup:=by rw [List.nodup_iff_pairwise_ne];exact hb.imp λh=>by omega
 have hp:=(List.perm_ext_iff_of_nodup hna hnb).2 h
 exact hp.eq_of_pairwise (λx y _ _ h1 h2=>by omega) (ha.imp λh=>Nat.le_of_lt h) (hb.imp λh=>Nat.le_of_lt h)
theorem zJH{l:List EdN}(h:l.Pairwise ltE)(v:Nat):(rowN l v).Pairwise (· < ·):=by
 unfold rowN
 rw [List.pairwise_map]
 have h1:(atV l v).Pairwise ltE:=h.filter _
 refine h1.imp_of_mem λ{a b} ha hb hlt=>?_
 have h2:=(List.mem_filter.1 ha).2;have h3:=(List.mem_filter.1 hb).2
 simp only [decide_eq_true_eq] at h2 h3
 unfold ltE at hlt
 show a.t<b.t
 omega
theorem zK4{r:List EdN}(hg:g.es.Pairwise ltE)(hr:RevOf g r)(v:Nat):nbL g 1 v=rowN r v:=by
 have e1:nbL g 1 v=(g.es.filter λe=>e.t==v).map (·.f):=by unfold nbL;rw [if_pos rfl]
 rw [e1]
 refine zMn ?_ (zJH hr.2 v) λx=>?_
 ·rw [List.pairwise_map]
  refine(hg.filter _).imp_of_mem λ{a b} ha hb hlt=>?_
  have h2:=(List.mem_filter.1 ha).2;have h3:=(List.mem_filter.1 hb).2
  simp only [beq_iff_eq] at h2 h3
  unfold ltE at hlt
  show a.f<b.f
  omega
 ·unfold rowN atV
  simp only [List.mem_map,List.mem_filter,beq_iff_eq,decide_eq_true_eq]
  constructor
  ·rintro⟨e,⟨h1,h2⟩,rfl⟩
   exact⟨trnE e,⟨hr.1.mem_iff.2 (List.mem_map.2 ⟨e,h1,rfl⟩),h2⟩,rfl⟩
  ·rintro⟨e,⟨h1,h2⟩,rfl⟩
   have q_:=List.mem_map.1 (hr.1.mem_iff.1 h1)
   obtain⟨e0,h0,rfl⟩:=q_
   exact⟨e0,⟨h0,h2⟩,rfl⟩
theorem GrIs.rowI(h:GrIs g):RowI g.n g.es:=⟨h.ok.n1,h.ok.n2,h.ok.ed,h.er,h.ne⟩
theorem GrIs.rowR{r:List EdN}(h:GrIs g)(hr:RevOf g r):RowI g.n r:=⟨h.ok.n1,h.ok.n2,λe he=>by
 have q_:=List.mem_map.1 (hr.1.mem_iff.1 he)
 obtain⟨e0,h0,rfl⟩:=q_
 exact⟨(h.ok.ed e0 h0).2,(h.ok.ed e0 h0).1⟩,hr.2,by have:=hr.1.length_eq;have:=h.ne;simp at *;omega⟩
end Go.W
namespace Go.W
open Go Go.Proofs
open Enc (enc)
set_option maxRecDepth 10000
variable {B hi i j k m n n2:Nat} {D:Nat -> Prop} {P:Program} {a a2:Option Addr} {g:GrD} {ps:List Int} {q:QyD} {s:List UInt8} {u u' w w' w1 w2:World}
section
variable {P:Program} {k:Value->World->Prop} {pn:List PanicEntry->World->Prop} {w:World}
theorem zNj{X Y:Operand}{t:TypeId}{x:Nat}(w:World):(do eqGuard .shr t X Y (.int .u64 (x:Int)) (.int .u64 1);binOp .shr t (.int .u64 (x:Int)) (.int .u64 1):Sem Value).run P w=.ok (.int .u64 ((x / 2:Nat):Int)) w:=by
 have g:(eqGuard .shr t X Y (.int .u64 (x:Int)) (.int .u64 1)).run P w=.ok () w:=rfl
 rw [Sem.run_bind,g,Result.andThen_ok]
 have h2:min (1:Int).toNat IntKind.u64.bits=1:=rfl
 simp only [binOp,Op.shift,h2]
 rw [if_neg (by decide)]
 have:(x:Int).fdiv (2 ^ 1)=((x / 2:Nat):Int):=by
  rw [Int.fdiv_eq_ediv_of_nonneg _ (by decide)];simp
 rw [this];rfl
theorem rshr1{X Y:Operand}{t:TypeId}{x:Nat}(hk:k (.int .u64 ((x / 2:Nat):Int)) w):SemV P (do eqGuard .shr t X Y (.int .u64 (x:Int)) (.int .u64 1);binOp .shr t (.int .u64 (x:Int)) (.int .u64 1)) k pn w:=SemV.of (zNj w) hk
theorem tslD{α:Type}[Enc α]{t e:TypeId}{z:Value}{by':Nat}[ht:SlT P t e][he:Elem P e z (Enc.sz α) by']{k:Value->Prop}{c:Nat}{l:List α}(lo hi:Nat)(h:SlF w (.slice a n c) l)(h1:lo<=hi)(h2:hi<=n)
  (hk:k (.slice (if c=lo then a else a.map (·.add (lo*Enc.sz α))) (hi - lo) (c - lo))):TakeS P (Instr.sliceAt t (.slice a n c) (some (.int .i64 lo)) (some (.int .i64 hi)) none) D k w:=by
 have hnc:n<=c:=by obtain⟨a',c',hv,hc,_⟩:=h;cases hv;exact hc
 rw [zAg]
 exact⟨_,λw' _=>zBk ht he (some lo) (some hi) h1 (Nat.le_trans h2 hnc) w',hk⟩
end
theorem zFD{x y:Int}:Sp PP F.d8 #[.int .i64 x,.int .i64 y] w λv w'=>Tells (x<y) v/\w'=w:=by
 refine en TBok rfl ?_
 refine rcall (zCE) ?_
 rintro v w1 ⟨rfl,rfl⟩
 exact ite (λh=>⟨.t h,rfl⟩) (λh=>⟨.f h,rfl⟩)
structure RwF (w:World) (x:RRow) (g:GrD) (r:List EdN):Prop where
 rev':RevOf g r
 off:SlF w (.slice x.off.a x.off.n x.off.c) (offL g.n g.es)
 to:SlF w (.slice x.to.a x.to.n x.to.c) (toL g.es)
 rof:SlF w (.slice x.rof.a x.rof.n x.rof.c) (offL g.n r)
 rev:SlF w (.slice x.rev.a x.rev.n x.rev.c) (toL r)
theorem RwF.up[Le w w']{x:RRow}{r:List EdN}(h:RwF w x g r):RwF w' x g r:=⟨h.rev',h.off.up,h.to.up,h.rof.up,h.rev.up⟩
theorem zJ4{c:Nat}{l:List EdN}(h:SlF w (.slice a m c) (offL n l))(hn:n<=200):Sp PP F.zr #[.slice a m c] w λv w'=>v=.bool true/\Stp w w':=by
 have q_:=h.len
 obtain rfl:=q_
 have hl:=zAM n l
 refine en TBok rfl ?_
 refine rarE (y:=((n:Nat):Int)) (by omega) (by omega) (loop1 TBok 4 [2] 3 (λv u=>∃k:Nat,v=.int .i64 (k:Int)/\k<=n/\Stp w u) (λv _=>(Go.RowKit.intOf v).toNat) rfl ⟨n,rfl,Nat.le_refl _,stp⟩ ?_)
 rintro v g u ⟨k,rfl,hk,e⟩
 refine ite (λhlt=>?_) (λhge=>⟨rfl,stp⟩)
 have q_:∃j,k=j+1:=⟨k - 1,by omega⟩
 obtain⟨j,rfl⟩:=q_
 refine drawR TBok mixed (λ_=>False) (upF 10 0) (by kernel_rfl) λu2 e2 _=>?_
 have S2:=h.up (w':=u2)
 refine tix (i:=j+1) S2 (zAk hk) λb4 o4 A4 _=>tload1 (A4.cell0 rfl) nf (rarE (y:=((j:Nat):Int)) (by omega) (by omega) (tix S2 (zAk (v:=j) (by omega)) λb3 o3 A3 _=>tload1 (A3.cell0 rfl) nf (rcall zFD ?_)))
 have hm:=zBc l j
 rintro _ _ ⟨⟨rfl,h2⟩|⟨rfl,h2⟩,rfl⟩
 ·omega
 refine⟨Fr.refl _ _,?_⟩
 refine rarE (y:=((j:Nat):Int)) (by omega) (by omega) ⟨⟨j,rfl,by omega,stp⟩,?_⟩
 show ((j:Int)).toNat<(((j+1:Nat):Int)).toNat
 omega
theorem zDx{most:Int}{c:Nat}{l:List Int}(h:SlF w (.slice a n c) l)(hn:l.length<=1000000):Sp PP F.co #[.int .i64 most,.slice a n c] w λv w'=>Tells (∀x∈l,0<=x/\x<=most) v/\Stp w w':=by
 have q_:=h.len
 obtain rfl:=q_
 refine en TBok rfl ?_
 refine cnt TBok 9 [4,6] 9 l.length (λk u=>(∀x∈l.take k,0<=x/\x<=most)/\Stp w u) rfl rfl ⟨by simp,stp⟩ ?_
 rintro k g u hk ⟨hall,e⟩
 refine ite (λhlt=>?_) (λhge=>?_)
 ·have hka:k<l.length:=by omega
  refine rix (h.up (w':=u)) (x:=l[k]) (by simp) λb1 o1 A1=>rload1 (A1.cell0 rfl) (ite (λh1=>⟨.f λhh=>by have:=hh _ (List.getElem_mem hka);omega,stp⟩) (λh1=>?_))
  refine ite (λh2=>⟨.f λhh=>by have:=hh _ (List.getElem_mem hka);omega,stp⟩) (λh2=>?_)
  refine rA ⟨rfl,hka,λt ht=>?_,stp⟩
  rw [zAa hka] at ht
  have q_:=List.mem_append.1 ht
  rcases q_ with ht|ht
  ·exact hall t ht
  ·rw [List.mem_singleton.1 ht];omega
 ·have q_:k=l.length:=by omega
  obtain rfl:=q_
  rw [List.take_length] at hall
  exact⟨.t hall,stp⟩
structure RaDat (l:List EdN) (n:Nat) (oa:Option Addr) (oc:Nat) (ta:Option Addr) (tc:Nat) (b1 b2:Nat) (u:World):Prop where
 off:SlF u (.slice oa (offL n l).length oc) (offL n l)
 to:SlF u (.slice ta (toL l).length tc) (toL l)
 bo:Bk u b1 [.slice oa (offL n l).length oc] E.q7
 bt:Bk u b2 [.slice ta (toL l).length tc] E.q7
section
variable {l:List EdN} {n:Nat} {oa:Option Addr} {oc:Nat} {ta:Option Addr} {tc b1 b2:Nat} {u u':World}
theorem RaDat.up[Le u u'](h:RaDat l n oa oc ta tc b1 b2 u):RaDat l n oa oc ta tc b1 b2 u':=⟨h.off.up,h.to.up,h.bo.mv,h.bt.mv⟩
theorem RaDat.qt(h:RaDat l n oa oc ta tc b1 b2 u)(q:Qt B u u'):RaDat l n oa oc ta tc b1 b2 u':=⟨h.off.qt q,h.to.qt q,h.bo.qt q,h.bt.qt q⟩
end
def raXs (l:List EdN):List (List Value):=l.map λe=>[.int .i64 (e.f:Int),.int .i64 (e.t:Int)]
theorem zJC{l:List EdN}:∀x∈raXs l,x.length=2:=by intro x hx;obtain⟨e,_,rfl⟩:=List.mem_map.1 hx;rfl
theorem zKw{l:List EdN}{oa:Option Addr}{oc:Nat}{ta:Option Addr}{tc b1 b2:Nat}(hI:RowI n l):SeqOf PP F.qy [] [.pointer (some ⟨b1,0,none⟩),.pointer (some ⟨b2,0,none⟩)] (RaDat l n oa oc ta tc b1 b2) (raXs l):=by
 have hn:=hI.n2;have hln:=hI.len
 refine⟨λy J Jx w hJ hJx hD hY h0=>?_⟩
 have d0:=hD _ _ h0
 have hol:=zAM n l
 refine en TBok rfl ?_
 refine rld (B:=d0.bo) rfl (rarE (y:=((n:Nat):Int)) (by omega) (by omega) (cnt TBok 10 [4,6] 10 n (λk u=>J (cLt l k) u) rfl rfl (by rw [zF0];exact h0) ?_))
 intro k G u hk hj
 refine ite (λhlt=>?_) (λhge=>?_)
 case' refine_2 =>
  have q_:k=n:=by omega
  obtain rfl:=q_
  rw [zKD λe he=>(hI.lt e he).1] at hj
  refine .inl ?_
  unfold raXs;rw [List.length_map];exact hj
 have hkn:k<n:=by omega
 refine drawR TBok mixed (λ_=>False) (upF 13 0) (by kernel_rfl) λu2 e2 _=>?_
 have hj2:=hJ _ _ _ hj e2.e
 have d2:=hD _ _ hj2
 have hm:=zBc l k
 have hle:=cLt_le l (k+1)
 have htl:=zA7 l
 refine tld (B:=d2.bt) rfl nf (tld (B:=d2.bo) rfl nf ?_)
 refine tix d2.off (zAk (v:=k) (by omega)) λb3 o3 A3 _=>tload1 (A3.cell0 rfl) nf (tld (B:=d2.bo) rfl nf (rarE (y:=((k+1:Nat):Int)) (by omega) (by omega) (tix d2.off (zAk (v:=k+1) (by omega)) λb4 o4 A4 _=>tload1 (A4.cell0 rfl) nf ?_)))
 have hs5:=zDG hI.ris k
 refine tslD (cLt l k) (cLt l (k+1)) d2.to hm (by omega) ?_
 have seg:∀u,RaDat l n oa oc ta tc b1 b2 u->SlF u (.slice (if tc=cLt l k then ta else ta.map (·.add (cLt l k*Enc.sz Int))) (cLt l (k+1) - cLt l k) (tc - cLt l k)) (toL (atV l k)):=λu d=>by
  have:=d.to.part (cLt l k) (cLt l (k+1)) hm (by omega)
  rw [hs5] at this;exact this
 have hl5:cLt l (k+1) - cLt l k=(atV l k).length:=by have:=(seg _ d2).len;rw [zA7] at this;exact this
 clear d2 d0
 refine cnt TBok 25 [6] 25 (atV l k).length (λj u=>J (cLt l k+j) u) rfl rfl hj2 ?_
 rintro j G2 u3 hjl hj3
 have d3:=hD _ _ hj3
 refine ite (λhlt2=>?_) (λhge2=>?_)
 ·have hja:j<(atV l k).length:=by omega
  have q_:=at_get hI.ris hja
  obtain⟨hget,hfv⟩:=q_
  refine rix (seg _ d3) (x:=((atV l k)[j].t:Int)) (by simp [toL,hja]) λb6 o6 A6=>rload1 (A6.cell0 rfl) ?_
  have hx:(raXs l)[cLt l k+j]? = some [.int .i64 (k:Nat),.int .i64 ((atV l k)[j].t:Int)]:=by
   unfold raXs;rw [List.getElem?_map,hget]
   show some [Value.int .i64 ((atV l k)[j].f:Int),_]=_
   rw [hfv]
  have hY3:=hY _ u3 _ hx hj3
  refine ryield rfl rfl rfl rfl hY3 ?_
  rintro b u' (⟨rfl,hu'⟩|⟨rfl,hu'⟩)
  ·exact rA ⟨rfl,hja,hu'⟩
  ·exact .inr hu'
 ·have q_:j=(atV l k).length:=by omega
  obtain rfl:=q_
  refine rA ⟨rfl,hkn,?_⟩
  rw [show cLt l (k+1)=cLt l k+(atV l k).length by omega]
  exact hj3
theorem zFR{l:List EdN}{no nt:Nat}{oa:Option Addr}{oc:Nat}{ta:Option Addr}{tc:Nat}(ho:SlF w (.slice oa no oc) (offL n l))(ht:SlF w (.slice ta nt tc) (toL l)):
  Sp PP F.qa5 #[.slice oa no oc,.slice ta nt tc] w λv w'=>(∃b1 b2,v=.func (.func F.qy) #[] #[.pointer (some ⟨b1,0,none⟩),.pointer (some ⟨b2,0,none⟩)]/\RaDat l n oa oc ta tc b1 b2 w'/\w.heap.size<=b1/\w.heap.size<=b2)/\Stp w w':=by
 have q_:=ho.len
 obtain rfl:=q_
 have q_:=ht.len
 obtain rfl:=q_
 refine en TBok rfl ?_
 refine rbx λb1 w1 n1 B1=>rbx λb2 w2 n2 B2=>?_
 exact⟨⟨b1,b2,rfl,⟨ho.up,ht.up,B1.mv,B2.mv⟩,n1.lo,n2.lo⟩,stp⟩
def lastE (l:List EdN):Nat->Int×Int
 |0=>(-1,0)
 |i+1=>match l[i]? with|some e=>(e.f,e.t)|none=>(-1,0)
theorem zE9{l:List EdN}{no nt:Nat}{oa:Option Addr}{oc:Nat}{ta:Option Addr}{tc:Nat}(hI:RowI n l)(ho:SlF w (.slice oa no oc) (offL n l))(ht:SlF w (.slice ta nt tc) (toL l)):
  Sp PP F.qan #[.slice oa no oc,.slice ta nt tc] w λv w'=>v=.bool true/\Stp w w':=by
 have q_:=ho.len
 obtain rfl:=q_
 have q_:=ht.len
 obtain rfl:=q_
 have h1:=hI.n1;have h2:=hI.n2;have h3:=hI.len
 have hol:=zAM n l;have htl:=zA7 l
 refine en TBok rfl ?_
 refine ral λbr w1 n1 z1=>rarE (y:=((n:Nat):Int)) (by omega) (by omega) (ral λbn w2 n2 z2=>rsto (B:=z2) (vs:=[.int .i64 (n:Int)]) rfl rfl rfl (zAf _) λw3 N3 f3 _=>?_)
 have N3:Bk w3 bn [.int .i64 (n:Int)] E.qa:=N3
 have s3:Stp w1 w3:=⟨Fr.st Le.e f3 λi hi=>by subst hi;exact n2.lo⟩
 clear z2
 have hbr:=n1.b;have hsr:=n1.s;have hbn:=n2.b;have hsn:=n2.s;have z23:=f3.size
 refine rld (B:=N3) rfl (iF (by first|omega|decide|(dsimp only <;> omega)) (rld (B:=N3) rfl (iF (by first|omega|decide|(dsimp only <;> omega)) (iF (by first|omega|decide|(dsimp only <;> omega)) (rix (i:=0) (ho.up (w':=w3)) (zAk (v:=0) (by omega)) λb4 o4 A4=>rload1 (A4.cell0 rfl) (iF (by rw [zF0];simp) (rld (B:=N3) rfl (rix (ho.up (w':=w3)) (zAk (v:=n) (Nat.le_refl _)) λb5 o5 A5=>rload1 (A5.cell0 rfl) ?_))))))))
 have hall:=zKD (n:=n) (l:=l) λe he=>(hI.lt e he).1
 refine iF (by rw [hall,htl];simp) (rcall (zJ4 (ho.up (w':=w3)) h2) ?_)
 rintro _ w4 ⟨rfl,e4⟩
 refine ral λbV w5 n5 z5=>ral λbW w6 n6 z6=>?_
 have hbV:=n5.b;have hsV:=n5.s;have hbW:=n6.b;have hsW:=n6.s;have z34:=e4.e.size
 refine rsto (B:=z5.mv (w:=w6)) (vs:=[.int .i64 (-1)]) rfl rfl rfl (zAf _) λw7 V7 f7 _=>?_
 have V7:Bk w7 bV [.int .i64 (-1)] E.qa:=V7
 refine rsto (B:=z6.fr f7 (by omega)) (vs:=[.int .i64 0]) rfl rfl rfl (zAf _) λw8 W8 f8 _=>?_
 have W8:Bk w8 bW [.int .i64 0] E.qa:=W8
 have V8:=V7.fr f8 (by omega)
 have s8:Stp w4 w8:=⟨Fr.st (Fr.st (Le.e (a:=w4) (b:=w6)) f7 (by omega)) f8 (by omega)⟩
 clear z5 z6 V7
 have z68:w6.heap.size<=w8.heap.size:=by have h1:=f7.size;have h2:=f8.size;omega
 refine rcall (zFR (n:=n) (l:=l) (ho.up (w':=w8)) (ht.up (w':=w8))) ?_
 rintro _ w9 ⟨⟨b1,b2,rfl,D9,hb1,hb2⟩,e9⟩
 have z89:=e9.e.size
 refine rrange TBok rfl (gf:=F.qy) (first:=[]) (cap:=[.pointer (some ⟨b1,0,none⟩),.pointer (some ⟨b2,0,none⟩)]) rfl rfl (zKw (oa:=oa) (oc:=oc) (ta:=ta) (tc:=tc) hI) zJC
  (λi u=>Bk u bn [.int .i64 (n:Int)] E.qa/\Bk u bV [.int .i64 (lastE l i).1] E.qa/\Bk u bW [.int .i64 (lastE l i).2] E.qa/\Bk u br [.bool false] E.q2/\RaDat l n oa oc ta tc b1 b2 u/\Stp w u)
  (λ_ _=>False) ?_ ?_ ?_ ⟨N3.mv,V8.mv,W8.mv,z1.mv,D9,stp⟩ ?_ ?_ ?_
 ·rintro i u u' ⟨a1,a2,a3,a4,a5,a6⟩ q
  exact⟨a1.qt q,a2.qt q,a3.qt q,a4.qt q,a5.qt q,a6.qt (q.mono (by have:=Le.size (a:=w) (b:=w9);omega))⟩
 ·rintro c u u' h;exact h.elim
 ·rintro i u ⟨_,_,_,_,a5,_⟩;exact a5
 ·rintro i y u hx ⟨a1,a2,a3,a4,a5,a6⟩
  unfold raXs at hx
  rw [List.getElem?_map,Option.map_eq_some_iff] at hx
  obtain⟨e,he,rfl⟩:=hx
  have q_:=List.getElem?_eq_some_iff.1 he
  obtain⟨hi,hie⟩:=q_
  have hem:e∈l:=List.mem_of_getElem? he
  have hlt:=hI.lt e hem
  refine⟨Fr.refl _ _,λu1 q=>?_⟩
  have a1:=a1.qt q;have a2:=a2.qt q;have a3:=a3.qt q;have a4:=a4.qt q;have a5:=a5.qt q
  have a6:=a6.qt (q.mono (by have:=Le.size (a:=w) (b:=w9);omega))
  refine rld (B:=a1) rfl (rarE (y:=((n - 1:Nat):Int)) (by omega) (by omega) (rbs1 (e.t:Int) rfl rfl (by decide) λb6 u2 e6 _ S6=>rcall (zDx S6 (by simp)) ?_))
  rintro _ u3 ⟨⟨rfl,_⟩|⟨rfl,hno⟩,e7⟩
  case' inr=>exact absurd (by intro x hx;rw [List.mem_singleton.1 hx];omega) hno
  have hlast:¬((e.f:Int)=(lastE l i).1/\(e.t:Int)<=(lastE l i).2):=by
   rintro⟨h1,h2⟩
   cases i with
   |zero=>simp [lastE] at h1
   |succ i =>
    have hi':i<l.length:=by omega
    have hll:lastE l (i+1)=(((l[i]).f:Int),((l[i]).t:Int)):=by simp [lastE,hi']
    rw [hll] at h1 h2
    have:=List.pairwise_iff_getElem.1 hI.ris i (i+1) hi' hi (by omega)
    rw [hie] at this
    unfold ltE at this
    simp only at h1 h2
    omega
  refine rld (B:=a2) rfl (ite (λh5=>?_) (λh5=>?_))
  ·refine rld (B:=a3) rfl (ite (λh6=>absurd ⟨h5,h6⟩ hlast) (λh6=>?_))
   refine rsto (B:=a2.mv (w:=u3)) (vs:=[.int .i64 (e.f:Int)]) rfl rfl rfl (zAf _) λu4 V4 f4 _=>?_
   have V4:Bk u4 bV [.int .i64 (e.f:Int)] E.qa:=V4
   have X4:=(a3.mv (w:=u3)).fr f4 (by omega)
   refine rsto (B:=X4) (vs:=[.int .i64 (e.t:Int)]) rfl rfl rfl (zAf _) λu5 W5 f5 _=>?_
   have W5:Bk u5 bW [.int .i64 (e.t:Int)] E.qa:=W5
   have hle:lastE l (i+1)=((e.f:Int),(e.t:Int)):=by simp [lastE,he]
   have s5:Stp w u5:=⟨Fr.st (Fr.st (Le.e (a:=w) (b:=u3)) f4 (by omega)) f5 (by omega)⟩
   refine⟨⟨((a1.mv (w:=u3)).fr f4 (by omega)).fr f5 (by omega),by rw [hle];exact V4.fr f5 (by omega),by rw [hle];exact W5,((a4.mv (w:=u3)).fr f4 (by omega)).fr f5 (by omega),⟨ho.up,ht.up,((a5.bo.mv (w:=u3)).fr f4 (by omega)).fr f5 (by omega),((a5.bt.mv (w:=u3)).fr f4 (by omega)).fr f5 (by omega)⟩,s5⟩,
    λi=>i=bV\/i=bW,((Fr.fr (Le.e (a:=u1) (b:=u3))).trans (f4.mono λi _ hi=>.inl hi)).trans (f5.mono λi _ hi=>.inr hi)⟩
  ·refine rsto (B:=a2.mv (w:=u3)) (vs:=[.int .i64 (e.f:Int)]) rfl rfl rfl (zAf _) λu4 V4 f4 _=>?_
   have V4:Bk u4 bV [.int .i64 (e.f:Int)] E.qa:=V4
   have X4:=(a3.mv (w:=u3)).fr f4 (by omega)
   refine rsto (B:=X4) (vs:=[.int .i64 (e.t:Int)]) rfl rfl rfl (zAf _) λu5 W5 f5 _=>?_
   have W5:Bk u5 bW [.int .i64 (e.t:Int)] E.qa:=W5
   have hle:lastE l (i+1)=((e.f:Int),(e.t:Int)):=by simp [lastE,he]
   have s5:Stp w u5:=⟨Fr.st (Fr.st (Le.e (a:=w) (b:=u3)) f4 (by omega)) f5 (by omega)⟩
   refine⟨⟨((a1.mv (w:=u3)).fr f4 (by omega)).fr f5 (by omega),by rw [hle];exact V4.fr f5 (by omega),by rw [hle];exact W5,((a4.mv (w:=u3)).fr f4 (by omega)).fr f5 (by omega),⟨ho.up,ht.up,((a5.bo.mv (w:=u3)).fr f4 (by omega)).fr f5 (by omega),((a5.bt.mv (w:=u3)).fr f4 (by omega)).fr f5 (by omega)⟩,s5⟩,
    λi=>i=bV\/i=bW,((Fr.fr (Le.e (a:=u1) (b:=u3))).trans (f4.mono λi _ hi=>.inl hi)).trans (f5.mono λi _ hi=>.inr hi)⟩
 ·rintro D u ⟨a1,a2,a3,a4,a5,a6⟩ hD' hd
  have zz:=Le.size (a:=w) (b:=w9)
  refine rsto (B:=a4) (vs:=[.bool true]) rfl rfl rfl (zAo _) λu2 R2 f2 _=>?_
  have R2:Bk u2 br [.bool true] E.q2:=R2
  have hd2:=f2.nc _ _ hd rfl
  refine leave1 hd2 λu' q=>?_
  have R3:=R2.qt (q 0 (by omega))
  have s2:Stp w u2:=⟨Fr.st a6.e f2 (by omega)⟩
  refine rres (B:=R3) rfl ?_
  exact⟨rfl,s2.qt (q _ (by omega))⟩
 ·rintro c D u h;exact h.elim
instance:KindT PP E.yw .u64:=⟨by kernel_rfl⟩
theorem zGt{c:Nat}{l:List Int}{t:Int}(h:SlF w (.slice a n c) l)(hs:l.Pairwise (· < ·))(hm:t∈l)(hn:l.length<=1000000):
  Sp PP F.y4 #[.slice a n c,.int .i64 t] w λv w'=>(∃p:Nat,v=.tuple #[.int .i64 (p:Int),.bool true])/\Stp w w':=by
 have q_:=h.len
 obtain rfl:=q_
 have q_:=List.mem_iff_getElem.1 hm
 obtain⟨p,hp,rfl⟩:=q_
 refine en TBok rfl ?_
 refine loop2 TBok 13 [9] 7 8 (λv7 v8 u=>∃i j:Nat,v7=.int .i64 (i:Int)/\v8=.int .i64 (j:Int)/\i<=p/\p<=j/\j<=l.length/\Stp w u) (λv7 v8 _=>(Go.RowKit.intOf v8).toNat - (Go.RowKit.intOf v7).toNat) rfl
  ⟨0,l.length,rfl,rfl,by omega,by omega,Nat.le_refl _,stp⟩ ?_
 rintro v7 v8 g u ⟨i,j,rfl,rfl,h1,h2,h3,e⟩
 refine ite (λhlt=>?_) (λhge=>?_)
 ·refine rarE (y:=((i+j:Nat):Int)) (by omega) (by omega) ?_
  refine rconvE (z:=((i+j:Nat):Int)) (by simp [IntKind.wrap,IntKind.signed,IntKind.bits];omega) ?_
  refine rshr1 ?_
  refine rconvE (z:=(((i+j) / 2:Nat):Int)) (zB2 (by omega) (by omega)) ?_
  have hh:(i+j) / 2<l.length:=by omega
  refine rix (h.up (w':=u)) (i:=(i+j) / 2) (x:=l[(i+j) / 2]) (by simp) λb1 o1 A1=>rload1 (A1.cell0 rfl) ?_
  refine rcall zFD ?_
  rintro _ _ ⟨⟨rfl,h5⟩|⟨rfl,h5⟩,rfl⟩
  ·have:¬p<=(i+j) / 2:=λhle=>by
    have q_:=Nat.lt_or_ge p ((i+j) / 2)
    rcases q_ with h6|h6
    ·have:=List.pairwise_iff_getElem.1 hs p _ hp hh h6;omega
    ·have e1:p=(i+j) / 2:=by omega
     simp only [<-e1] at h5;omega
   refine rarE (y:=(((i+j) / 2+1:Nat):Int)) (by omega) (by omega) ⟨⟨(i+j) / 2+1,j,rfl,rfl,by omega,h2,h3,e⟩,?_⟩
   show ((j:Int)).toNat - ((((i+j) / 2+1:Nat):Int)).toNat<((j:Int)).toNat - ((i:Int)).toNat
   omega
  ·have:p<=(i+j) / 2:=by
    have q_:=Nat.lt_or_ge ((i+j) / 2) p
    rcases q_ with h6|h6
    ·have:=List.pairwise_iff_getElem.1 hs _ p hh hp h6;omega
    ·exact h6
   refine⟨⟨i,(i+j) / 2,rfl,rfl,h1,this,by omega,e⟩,?_⟩
   show ((((i+j) / 2:Nat):Int)).toNat - ((i:Int)).toNat<((j:Int)).toNat - ((i:Int)).toNat
   omega
 ·have q_:i=p:=by omega
  obtain rfl:=q_
  refine ite (λ_=>?_) (λh=>absurd h (by omega))
  refine rix (h.up (w':=u)) (x:=l[i]) (by simp) λb1 o1 A1=>rload1 (A1.cell0 rfl) ?_
  refine iT rfl ?_
  exact⟨⟨i,rfl⟩,stp⟩
theorem zOo{r:List EdN}(hr:RevOf g r){e:EdN}(he:e∈g.es):(e.f:Int)∈toL (atV r e.t):=by
 unfold toL
 refine List.mem_map.2 ⟨trnE e,List.mem_filter.2 ⟨hr.1.mem_iff.2 (List.mem_map.2 ⟨e,he,rfl⟩),?_⟩,rfl⟩
 simp [trnE]
theorem zOp{l:List EdN}(h:l.Pairwise ltE)(v:Nat):(toL (atV l v)).Pairwise (· < ·):=by
 have:=zJH h v
 unfold rowN at this
 unfold toL
 rw [List.pairwise_map] at this ⊢
 exact this.imp λh=>by omega
theorem zAQ{x:RRow}{r:List EdN}(hg:GrIs g)(R:RwF w x g r):Sp PP F.cw #[agg x] w λv w'=>v=.bool true/\Stp w w':=by
 have hI:=hg.rowI;have hJ:=hg.rowR R.rev'
 have l1:=R.off.len;have l2:=R.to.len;have l3:=R.rof.len;have l4:=R.rev.len
 have q1:=zAM g.n g.es;have q2:=zA7 g.es;have q3:=zAM g.n r;have q4:=zA7 r
 have hrl:=R.rev'.1.length_eq
 have hn2:=hg.ok.n2
 rw [List.length_map] at hrl
 refine en TBok rfl ?_
 refine rbx λbx w1 n1 B1=>ral λbr w2 n2 z2=>?_
 have hbx:=n1.b;have hsx:=n1.s;have hbr:=n2.b;have hsr:=n2.s
 refine rld (B:=B1) rfl (rld (B:=B1) rfl ?_)
 refine iF (by first|omega|decide|(dsimp only <;> omega)) (rld (B:=B1) rfl (rld (B:=B1) rfl ?_))
 refine iF (by first|omega|decide|(dsimp only <;> omega)) (rld (B:=B1) rfl (rld (B:=B1) rfl ?_))
 refine rcall (zE9 hI (R.off.up (w':=w2)) (R.to.up (w':=w2))) ?_
 rintro _ w3 ⟨rfl,e3⟩
 refine rld (B:=B1) rfl (rld (B:=B1) rfl ?_)
 refine rcall (zE9 hJ (R.rof.up (w':=w3)) (R.rev.up (w':=w3))) ?_
 rintro _ w4 ⟨rfl,e4⟩
 refine rld (B:=B1) rfl (rld (B:=B1) rfl ?_)
 refine rcall (zFR (n:=g.n) (l:=g.es) (R.off.up (w':=w4)) (R.to.up (w':=w4))) ?_
 rintro _ w5 ⟨⟨b1,b2,rfl,D5,hb1,hb2⟩,e5⟩
 have zz:=Le.size (a:=w) (b:=w5)
 refine rrange TBok rfl (gf:=F.qy) (first:=[]) (cap:=[.pointer (some ⟨b1,0,none⟩),.pointer (some ⟨b2,0,none⟩)]) rfl rfl (zKw (oa:=x.off.a) (oc:=x.off.c) (ta:=x.to.a) (tc:=x.to.c) hI) zJC
  (λi u=>Bk u bx (enc x) E.qq/\Bk u br [.bool false] E.q2/\RaDat g.es g.n x.off.a x.off.c x.to.a x.to.c b1 b2 u/\Stp w u)
  (λ_ _=>False) ?_ ?_ ?_ ⟨B1.mv,z2.mv,D5,stp⟩ ?_ ?_ ?_
 ·rintro i u u' ⟨a1,a2,a5,a6⟩ q
  exact⟨a1.qt q,a2.qt q,a5.qt q,a6.qt (q.mono zz)⟩
 ·rintro c u u' h;exact h.elim
 ·rintro i u ⟨_,_,a5,_⟩;exact a5
 ·rintro i y u hx ⟨a1,a2,a5,a6⟩
  unfold raXs at hx
  rw [List.getElem?_map,Option.map_eq_some_iff] at hx
  obtain⟨e,he,rfl⟩:=hx
  have hem:e∈g.es:=List.mem_of_getElem? he
  have hlt:=hI.lt e hem
  refine⟨Fr.refl _ _,λu1 q=>?_⟩
  have a1:=a1.qt q;have a2:=a2.qt q;have a5:=a5.qt q
  have a6:=a6.qt (q.mono zz)
  refine drawR TBRok mixed (λ_=>False) (upF 21 0) (by kernel_rfl) λu2 d2 _=>?_
  have hm:=zBc r e.t
  have hle:=cLt_le r (e.t+1)
  refine tld (B:=a1) rfl nf (tld (B:=a1) rfl nf ?_)
  refine tix (R.rof.up (w':=u2)) (zAk (v:=e.t) (by omega)) λb3 o3 A3 _=>tload1 (A3.cell0 rfl) nf (tld (B:=a1) rfl nf (rarE (y:=((e.t+1:Nat):Int)) (by omega) (by omega) (tix (R.rof.up (w':=u2)) (zAk (v:=e.t+1) (by omega)) λb4 o4 A4 _=>tload1 (A4.cell0 rfl) nf ?_)))
  have SR:=R.rev.up (w':=u2)
  refine tslD (cLt r e.t) (cLt r (e.t+1)) SR hm (by omega) ?_
  have seg:=SR.part (cLt r e.t) (cLt r (e.t+1)) hm (by omega)
  rw [zDG R.rev'.2 e.t] at seg
  refine rcall (zGt (t:=(e.f:Int)) seg (zOp R.rev'.2 _) (zOo R.rev' hem) (by rw [zA7];have:=List.length_filter_le (λe'=>decide (e'.f=e.t)) r;have:=hJ.len;unfold atV;omega)) ?_
  rintro _ u3 ⟨⟨p,rfl⟩,e6⟩
  refine⟨e6.e,?_⟩
  exact⟨⟨a1.mv,a2.mv,a5.up,stp⟩,λ_=>False,Le.e (a:=u1) (b:=u3)⟩
 ·rintro D u ⟨a1,a2,a5,a6⟩ hD' hd
  refine rsto (B:=a2) (vs:=[.bool true]) rfl rfl rfl (zAo _) λu2 R2 f2 _=>?_
  have R2:Bk u2 br [.bool true] E.q2:=R2
  have hd2:=f2.nc _ _ hd rfl
  refine leave1 hd2 λu' q=>?_
  have R3:=R2.qt (q 0 (by omega))
  have s2:Stp w u2:=⟨Fr.st a6.e f2 (by omega)⟩
  refine rres (B:=R3) rfl ?_
  exact⟨rfl,s2.qt (q _ (by omega))⟩
 ·rintro c D u h;exact h.elim
theorem zFS{x:RRow}{r l:List EdN}{no nt:Nat}{oa:Option Addr}{oc:Nat}{ta:Option Addr}{tc v:Nat}(hg:GrIs g)(R:RwF w x g r)(hI:RowI g.n l)(ho:SlF w (.slice oa no oc) (offL g.n l))(ht:SlF w (.slice ta nt tc) (toL l))(hv:v<g.n):
  Sp PP F.qa7 #[agg x,.slice oa no oc,.slice ta nt tc,.int .i64 (v:Int)] w λrv w'=>(∃v',rv=.tuple #[v',.bool true]/\Own w.heap.size E.qa w' v' (intsN (rowN l v)))/\Stp w w':=by
 have l1:=ho.len;have l2:=ht.len
 have q1:=zAM g.n l;have q2:=zA7 l
 have h2:=hI.n2
 refine en TBok rfl ?_
 refine rbx λbx w1 n1 B1=>rldG (ds:=enc x) (B:=B1) rfl rfl (rcall (zAQ hg (R.up (w':=w1))) ?_)
 rintro _ w2 ⟨rfl,e2⟩
 refine rarE (y:=((g.n - 1:Nat):Int)) (by omega) (by omega) (rbs1 (v:Int) rfl rfl (by decide) λb3 w3 e3 _ S3=>rcall (zDx S3 (by simp)) ?_)
 rintro _ w4 ⟨⟨rfl,_⟩|⟨rfl,hno⟩,e4⟩
 case' inr=>exact absurd (by intro x hx;rw [List.mem_singleton.1 hx];omega) hno
 refine drawR TBok mixed (λ_=>False) (upF 14 0) (by kernel_rfl) λw5 e5 _=>?_
 have hm:=zBc l v
 have hle:=cLt_le l (v+1)
 refine tix (ho.up (w':=w5)) (zAk (v:=v) (by omega)) λb6 o6 A6 _=>tload1 (A6.cell0 rfl) nf (rarE (y:=((v+1:Nat):Int)) (by omega) (by omega) (tix (ho.up (w':=w5)) (zAk (v:=v+1) (by omega)) λb7 o7 A7 _=>tload1 (A7.cell0 rfl) nf ?_))
 have SR:=ht.up (w':=w5)
 refine tslD (cLt l v) (cLt l (v+1)) SR hm (by omega) ?_
 have seg:=SR.part (cLt l v) (cLt l (v+1)) hm (by omega)
 rw [zDG hI.ris v] at seg
 refine rcall (zA9 seg (by rw [zA7];have:=List.length_filter_le (λe'=>decide (e'.f=v)) l;have:=hI.len;unfold atV;omega)) ?_
 rintro vv w6 ⟨O6,e6⟩
 refine⟨e6.e,?_⟩
 have e7:toL (atV l v)=intsN (rowN l v):=by unfold toL intsN rowN;rw [List.map_map];rfl
 rw [e7] at O6
 exact⟨⟨vv,rfl,O6.mono (Le.size (a:=w) (b:=w5))⟩,stp⟩
theorem zKl{x:RRow}{r:List EdN}{v:Nat}(hg:GrIs g)(R:RwF w x g r)(hv:v<g.n):
  Sp PP F.p7 #[agg x,.int .i64 (v:Int)] w λrv w'=>(∃v',rv=.tuple #[v',.bool true]/\Own w.heap.size E.qa w' v' (intsN (nbL g 0 v)))/\Stp w w':=by
 refine en TBok rfl ?_
 refine rbx λbx w1 n1 B1=>rldG (ds:=enc x) (B:=B1) rfl rfl (rld (B:=B1) rfl (rld (B:=B1) rfl ?_))
 refine rcall (zFS hg (R.up (w':=w1)) hg.rowI (R.off.up (w':=w1)) (R.to.up (w':=w1)) hv) ?_
 rintro _ w2 ⟨⟨v',rfl,O2⟩,e2⟩
 rw [<-zJG] at O2
 exact⟨⟨v',rfl,O2.mono (Le.size (a:=w) (b:=w1))⟩,stp⟩
theorem zLI{x:RRow}{r:List EdN}{v:Nat}(hg:GrIs g)(R:RwF w x g r)(hv:v<g.n):
  Sp PP F.dq #[agg x,.int .i64 (v:Int)] w λrv w'=>(∃v',rv=.tuple #[v',.bool true]/\Own w.heap.size E.qa w' v' (intsN (nbL g 1 v)))/\Stp w w':=by
 refine en TBok rfl ?_
 refine rbx λbx w1 n1 B1=>rldG (ds:=enc x) (B:=B1) rfl rfl (rld (B:=B1) rfl (rld (B:=B1) rfl ?_))
 refine rcall (zFS hg (R.up (w':=w1)) (hg.rowR R.rev') (R.rof.up (w':=w1)) (R.rev.up (w':=w1)) hv) ?_
 rintro _ w2 ⟨⟨v',rfl,O2⟩,e2⟩
 rw [<-zK4 hg.er R.rev'] at O2
 exact⟨⟨v',rfl,O2.mono (Le.size (a:=w) (b:=w1))⟩,stp⟩
theorem zJF{x:StD}:Sp PP F.qav #[agg x] w λv w'=>Tells (mayX x) v/\Stp w w':=by
 refine en TBok rfl ?_
 refine rbx λb w1 n1 B1=>rldG (ds:=enc x.key) (B:=B1) rfl rfl (rld (B:=B1) rfl (rbuild (cs:=enc x) rfl (rbs1 x rfl rfl (by decide) λb2 w2 n2 _ S2=>rcall (zCh S2 (by simp)) ?_)))
 rintro v w3 ⟨h3,e3⟩
 have h3':Tells (mayX x) v:=by simpa using h3
 exact⟨h3',stp⟩
def cfY (a b:KeyD):Int:=orI [cmpI a.slot b.slot,cmpI a.dir b.dir,cmpI a.v b.v]
theorem zCp{x y:KeyD}:Sp PP F.di #[agg x,agg y] w λv w'=>v=.int .i64 (cfY x y)/\Gw w w':=by
 refine en TBok rfl ?_
 refine rbx λba w1 n1 B1=>rbx λbb w2 n2 B2=>drawRE TBok mixed (λ_=>False) (.one 0 (.one 1 (.one 2 (.one 3 (.one 5 (.one 6 (.one 7 (.one 8 (.one 10 (.one 11 (.one 12 (.one 13 (.one 4 (.one 9 (.one 14 (.one 15 (.one 16 (.one 17 .nil)))))))))))))))))) (by kernel_rfl) λw3 e3 g3=>?_
 refine tld (B:=B1) rfl nf (tld (B:=B2) rfl nf ?_)
 refine tld (B:=B1) rfl nf (tld (B:=B2) rfl nf ?_)
 refine tld (B:=B1) rfl nf (tld (B:=B2) rfl nf ?_)
 refine rcall zAe ?_
 rintro v w4 ⟨rfl,rfl⟩
 refine⟨Fr.refl _ _,?_⟩
 refine rcall zAe ?_
 rintro v w5 ⟨rfl,rfl⟩
 refine⟨Fr.refl _ _,?_⟩
 refine rcall zAe ?_
 rintro v w6 ⟨rfl,rfl⟩
 refine⟨Fr.refl _ _,?_⟩
 refine rbsN [cmpI x.slot y.slot,cmpI x.dir y.dir,cmpI x.v y.v] rfl (vs:=[.int .i64 (cmpI x.slot y.slot),.int .i64 (cmpI x.dir y.dir),.int .i64 (cmpI x.v y.v)]) rfl rfl (by decide) λb7 w7 n7 S7=>⟨n7.e,?_⟩
 refine rcall (zBB S7 (by simp)) ?_
 rintro v w8 ⟨rfl,rfl⟩
 refine⟨Fr.refl _ _,?_⟩
 exact⟨rfl,n1.gw.trans (n2.gw.trans (g3.trans n7.gw))⟩
theorem zLO{x y:StD}:Sp PP F.ca #[agg x,agg y] w λv w'=>v=.int .i64 (cfM x y)/\Gw w w':=by
 refine en TBok rfl ?_
 refine rbx λba w1 n1 B1=>rbx λbb w2 n2 B2=>rldG (ds:=enc x.key) (B:=B1) rfl rfl (rldG (ds:=enc y.key) (B:=B2) rfl rfl (rcall (zCp (x:=x.key) (y:=y.key)) ?_))
 rintro _ w3 ⟨rfl,g3⟩
 exact⟨rfl,n1.gw.trans (n2.gw.trans g3)⟩
theorem zHq{c:Nat}{S:List StD}{m:Int}(h:SlF w (.slice a n c) S)(hn:S.length<=100000)(hr:SRis S)(hm:∀x∈S,mayX x/\x.key.v<m):
  Sp PP F.cr #[.slice a n c,.int .i64 m] w λv w'=>v=.bool true/\Stp w w':=by
 have q_:=h.len
 obtain rfl:=q_
 refine en TBok rfl ?_
 refine cnt TBok 9 [4,5,6] 9 S.length (λk u=>Stp w u) rfl rfl stp ?_
 rintro k g u hk su
 refine ite (λhlt=>?_) (λhge=>?_)
 ·have hka:k<S.length:=by omega
  refine rix (h.up (w':=u)) (x:=S[k]) (by simp) λb4 o4 A4=>rloadA A4 rfl (ral λb5 u5 n5 z5=>?_)
  have hb5:=n5.b;have hs5:=n5.s
  refine rsto (B:=z5) (vs:=enc S[k]) rfl rfl rfl (Enc.one _) λu6 X6 f6 _=>?_
  have X6:Bk u6 b5 (enc S[k]) E.qh:=X6
  have s6:Stp u u6:=⟨Fr.st (Le.e (a:=u) (b:=u5)) f6 λi hi=>by omega⟩
  have q_:=hm _ (List.getElem_mem hka)
  obtain⟨hx1,hx2⟩:=q_
  refine drawR TBok mixed (λ_=>False) (upF 26 0) (by kernel_rfl) λu7 e7 _=>tldG (ds:=enc S[k]) (B:=X6) rfl rfl nf (rcall zJF ?_)
  rintro _ u8 ⟨⟨rfl,_⟩|⟨rfl,h8⟩,e8⟩
  case' inr=>exact absurd hx1 h8
  refine⟨e8.e,?_⟩
  refine tld (B:=X6) rfl nf (ite (λh9=>absurd h9 (by omega)) (λh9=>?_))
  refine ite (λh10=>?_) (λh10=>?_)
  ·have q_:∃j,k=j+1:=⟨k - 1,by omega⟩
   obtain⟨j,rfl⟩:=q_
   have hja:j<S.length:=by omega
   refine rarE (y:=(j:Int)) (by omega) (by omega) (tix (i:=j) (h.up (w':=u8)) (x:=S[j]) (by simp) λb9 o9 A9 _=>?_)
   have A9k:At u8 b9 o9 (enc S[j].key):=A9.sub 0 3
   refine tloadA A9k rfl nf (tldG (ds:=enc S[j+1].key) (B:=X6) rfl rfl nf (rcall (zCp (x:=S[j].key) (y:=S[j+1].key)) ?_))
   rintro _ u9 ⟨rfl,g9⟩
   have e9:=g9.ext
   refine⟨e9,?_⟩
   have s9:Stp u8 u9:=⟨e9⟩
   have hlt':cfY S[j].key S[j+1].key<0:=(zFj S[j] S[j+1]).2 (List.pairwise_iff_getElem.1 hr j (j+1) hja hka (by omega))
   refine ite (λh11=>absurd h11 (by omega)) (λh11=>?_)
   exact rA ⟨rfl,hka,stp⟩
  ·refine rA ⟨rfl,hka,stp⟩
 ·exact⟨rfl,su⟩
structure QyV (w:World) (x:RQ) (q:QyD):Prop where
 kind:x.kind=q.kind
 frm:x.frm=q.frm
 to:x.to=q.to
 ws:SlF w x.words.v q.words
 rad:x.rad=q.rad
 most:x.most=q.most
theorem QyV.up[Le w w']{x:RQ}(h:QyV w x q):QyV w' x q:=⟨h.kind,h.frm,h.to,h.ws.up,h.rad,h.most⟩
theorem zC3{l:List Nat}(h:k<l.length):(intsN l)[k]? = some (l[k]:Int):=by simp [intsN,h]
theorem zC4(l:List Nat):(intsN l).length=l.length:=by simp [intsN]
theorem zKW(hg:GrIs g)(dir:Int)(v:Nat):(nbL g dir v).length<=2000:=by
 have:=hg.ne
 unfold nbL
 split
 ·rw [List.length_map];exact Nat.le_trans (List.length_filter_le _ _) this
 ·rw [List.length_map];exact Nat.le_trans (List.length_filter_le _ _) this
def sendL (x:StD) (l:List Nat):List StD:=l.map λv:Nat=>⟨⟨x.key.slot,x.key.dir,v⟩,x.d+1⟩
theorem zDc(x:StD){l:List Nat}(h:k<l.length):sendL x (l.take (k+1))=sendL x (l.take k)++[⟨⟨x.key.slot,x.key.dir,l[k]⟩,x.d+1⟩]:=by
 unfold sendL;rw [zAa h,List.map_append];rfl
theorem zJx{xq:RQ}{xr:RRow}{r:List EdN}{x:StD}(hg:GrIs g)(R:RwF w xr g r)(hk:xq.kind=q.kind/\xq.rad=q.rad)(hx:mayX x)(hd:x.key.dir=0\/x.key.dir=1)(hv:x.key.v<g.n):
  Sp PP F.qaw #[agg xq,agg xr,agg x] w λv w'=>(∃v',v=.tuple #[v',.int .i64 0]/\Own w.heap.size E.qb w' v' (nextL g q x))/\Stp w w':=by
 obtain⟨⟨hx1,hx2,hx3,hx4,hx5⟩,hx6,hx7⟩:=hx
 have q_:∃vn:Nat,x.key.v=(vn:Int):=⟨x.key.v.toNat,by omega⟩
 obtain⟨vn,hvn⟩:=q_
 have hvl:vn<g.n:=by omega
 refine en TBok rfl ?_
 refine rbx λbq w1 n1 B1=>rbx λbr w2 n2 B2=>rbx λbx w3 n3 B3=>rld (B:=B3) rfl ?_
 have hll:=zKW hg x.key.dir vn
 have hrow:∀(u:World),Stp w u->Sp PP (if x.key.dir=1 then F.dq else F.p7) #[agg xr,.int .i64 (vn:Int)] u λrv w'=>(∃v',rv=.tuple #[v',.bool true]/\Own u.heap.size E.qa w' v' (intsN (nbL g x.key.dir vn)))/\Stp u w':=λu L=>by
  rcases hd with h|h
  ·rw [h,if_neg (by decide)];exact zKl hg (R.up (w':=u)) hvl
  ·rw [h,if_pos rfl];exact zLI hg (R.up (w':=u)) hvl
 have hdx:¬(x.key.dir≠0/\x.key.dir≠1):=by omega
 refine ite (λh1=>?_) (λh1=>?_)
 ·refine rldG (ds:=enc xr) (B:=B2) rfl rfl (rld (B:=B3) (v:=.int .i64 (vn:Int)) (by rw [<-hvn];rfl) ?_)
  have H:=hrow w3 stp
  rw [if_pos h1] at H
  refine rcall H ?_
  rintro _ w4 ⟨⟨l9,rfl,O4⟩,e4⟩
  refine rldG (ds:=enc xr) (B:=B2) rfl rfl (rcall (zAQ hg (R.up (w':=w4))) ?_)
  rintro _ w5 ⟨rfl,e5⟩
  have O5:=O4.up (w':=w5)
  refine rld (B:=B3) rfl (ite (λh2=>?_) (λh2=>absurd h2 (by omega)))
  refine rld (B:=B3) rfl (iF (· h1) (rld (B:=B3) rfl (iF (by omega) (rld (B:=B3) rfl (iF (by omega) (rld (B:=B1) rfl (ite (λh3=>?_) (λh3=>?_))))))))
  ·refine rld (B:=B3) rfl (rld (B:=B1) rfl ?_)
   refine ite (λh4=>?_) (λh4=>?_)
   ·have en':nextL g q x=[]:=by unfold nextL;rw [if_pos ⟨by rw [<-hk.1];exact h3,by rw [<-hk.2];exact h4⟩]
    have ON:Own w.heap.size E.qb w5 (.slice none 0 0) (nextL g q x):=by rw [en'];exact Own.nil _ _ _
    exact⟨⟨_,rfl,ON⟩,stp⟩
   ·have hgo:¬(q.kind=3/\q.rad<=x.d):=λh=>h4 (by rw [hk.2];exact h.2)
    have en':nextL g q x=sendL x (nbL g x.key.dir vn):=by
     unfold nextL sendL
     rw [if_neg hgo,hvn];rfl
    have il:=zC4 (nbL g x.key.dir vn)
    have q_:=O5.shape
    obtain⟨la,lc,rfl⟩:=q_
    have S5:=O5.sl
    refine cnt1 TBok 69 [13] 11 69 (nbL g x.key.dir vn).length (λk v u=>Own w5.heap.size E.qb u v (sendL x ((nbL g x.key.dir vn).take k))/\Stp w5 u) rfl rfl ⟨Own.nil _ _ _,stp⟩ ?_
    rintro k v6 G u hkk ⟨O,su⟩
    refine ite (λhlt=>?_) (λhge=>?_)
    ·have hka:k<(nbL g x.key.dir vn).length:=by omega
     refine rix (S5.up (w':=u)) (i:=k) (x:=((nbL g x.key.dir vn)[k]:Int)) (zC3 hka) λb6 o6 A6=>rload1 (A6.cell0 rfl) (rld (B:=B3) rfl (rld (B:=B3) rfl ?_))
     refine rbuild (cs:=enc (⟨x.key.slot,x.key.dir,(nbL g x.key.dir vn)[k]⟩:KeyD)) rfl (rld (B:=B3) rfl (rA (rbuild (cs:=enc (⟨⟨x.key.slot,x.key.dir,(nbL g x.key.dir vn)[k]⟩,x.d+1⟩:StD)) rfl (rbs1 (⟨⟨x.key.slot,x.key.dir,(nbL g x.key.dir vn)[k]⟩,x.d+1⟩:StD) rfl rfl (by decide) λb7 u7 n7 _ S7=>rapp1 (u:=w5) ⟨rfl,rfl⟩ (O.up (w':=u7)) S7 (by unfold sendL;simp;omega) λv8 u8 O8 f8 s8=>?_))))
     have O8':Own w5.heap.size E.qb u8 v8 (sendL x ((nbL g x.key.dir vn).take (k+1))):=by rw [zDc x hka];exact O8
     exact rA ⟨rfl,hka,O8',stp⟩
    ·have q_:k=(nbL g x.key.dir vn).length:=by omega
     obtain rfl:=q_
     have O8':Own w.heap.size E.qb u v6 (nextL g q x):=by rw [en',<-List.take_length (l:=nbL g x.key.dir vn)];exact O.mono (Le.size (a:=w) (b:=w5))
     exact⟨⟨_,rfl,O8'⟩,stp⟩
  ·have hgo:¬(q.kind=3/\q.rad<=x.d):=λh=>h3 (by rw [hk.1];exact h.1)
   have en':nextL g q x=sendL x (nbL g x.key.dir vn):=by
    unfold nextL sendL
    rw [if_neg hgo,hvn];rfl
   have il:=zC4 (nbL g x.key.dir vn)
   have q_:=O5.shape
   obtain⟨la,lc,rfl⟩:=q_
   have S5:=O5.sl
   refine cnt1 TBok 69 [13] 11 69 (nbL g x.key.dir vn).length (λk v u=>Own w5.heap.size E.qb u v (sendL x ((nbL g x.key.dir vn).take k))/\Stp w5 u) rfl rfl ⟨Own.nil _ _ _,stp⟩ ?_
   rintro k v6 G u hkk ⟨O,su⟩
   refine ite (λhlt=>?_) (λhge=>?_)
   ·have hka:k<(nbL g x.key.dir vn).length:=by omega
    refine rix (S5.up (w':=u)) (i:=k) (x:=((nbL g x.key.dir vn)[k]:Int)) (zC3 hka) λb6 o6 A6=>rload1 (A6.cell0 rfl) (rld (B:=B3) rfl (rld (B:=B3) rfl ?_))
    refine rbuild (cs:=enc (⟨x.key.slot,x.key.dir,(nbL g x.key.dir vn)[k]⟩:KeyD)) rfl (rld (B:=B3) rfl (rA (rbuild (cs:=enc (⟨⟨x.key.slot,x.key.dir,(nbL g x.key.dir vn)[k]⟩,x.d+1⟩:StD)) rfl (rbs1 (⟨⟨x.key.slot,x.key.dir,(nbL g x.key.dir vn)[k]⟩,x.d+1⟩:StD) rfl rfl (by decide) λb7 u7 n7 _ S7=>rapp1 (u:=w5) ⟨rfl,rfl⟩ (O.up (w':=u7)) S7 (by unfold sendL;simp;omega) λv8 u8 O8 f8 s8=>?_))))
    have O8':Own w5.heap.size E.qb u8 v8 (sendL x ((nbL g x.key.dir vn).take (k+1))):=by rw [zDc x hka];exact O8
    exact rA ⟨rfl,hka,O8',stp⟩
   ·have q_:k=(nbL g x.key.dir vn).length:=by omega
    obtain rfl:=q_
    have O8':Own w.heap.size E.qb u v6 (nextL g q x):=by rw [en',<-List.take_length (l:=nbL g x.key.dir vn)];exact O.mono (Le.size (a:=w) (b:=w5))
    exact⟨⟨_,rfl,O8'⟩,stp⟩
 ·refine rldG (ds:=enc xr) (B:=B2) rfl rfl (rld (B:=B3) (v:=.int .i64 (vn:Int)) (by rw [<-hvn];rfl) ?_)
  have H:=hrow w3 stp
  rw [if_neg h1] at H
  refine rcall H ?_
  rintro _ w4 ⟨⟨l9,rfl,O4⟩,e4⟩
  refine rldG (ds:=enc xr) (B:=B2) rfl rfl (rcall (zAQ hg (R.up (w':=w4))) ?_)
  rintro _ w5 ⟨rfl,e5⟩
  have O5:=O4.up (w':=w5)
  refine rld (B:=B3) rfl (iF (by omega) (rld (B:=B3) rfl (iF (by omega) (rld (B:=B3) rfl (iF (by omega) (rld (B:=B1) rfl (ite (λh3=>?_) (λh3=>?_))))))))
  ·refine rld (B:=B3) rfl (rld (B:=B1) rfl ?_)
   refine ite (λh4=>?_) (λh4=>?_)
   ·have en':nextL g q x=[]:=by unfold nextL;rw [if_pos ⟨by rw [<-hk.1];exact h3,by rw [<-hk.2];exact h4⟩]
    have ON:Own w.heap.size E.qb w5 (.slice none 0 0) (nextL g q x):=by rw [en'];exact Own.nil _ _ _
    exact⟨⟨_,rfl,ON⟩,stp⟩
   ·have hgo:¬(q.kind=3/\q.rad<=x.d):=λh=>h4 (by rw [hk.2];exact h.2)
    have en':nextL g q x=sendL x (nbL g x.key.dir vn):=by
     unfold nextL sendL
     rw [if_neg hgo,hvn];rfl
    have il:=zC4 (nbL g x.key.dir vn)
    have q_:=O5.shape
    obtain⟨la,lc,rfl⟩:=q_
    have S5:=O5.sl
    refine cnt1 TBok 69 [13] 11 69 (nbL g x.key.dir vn).length (λk v u=>Own w5.heap.size E.qb u v (sendL x ((nbL g x.key.dir vn).take k))/\Stp w5 u) rfl rfl ⟨Own.nil _ _ _,stp⟩ ?_
    rintro k v6 G u hkk ⟨O,su⟩
    refine ite (λhlt=>?_) (λhge=>?_)
    ·have hka:k<(nbL g x.key.dir vn).length:=by omega
     refine rix (S5.up (w':=u)) (i:=k) (x:=((nbL g x.key.dir vn)[k]:Int)) (zC3 hka) λb6 o6 A6=>rload1 (A6.cell0 rfl) (rld (B:=B3) rfl (rld (B:=B3) rfl ?_))
     refine rbuild (cs:=enc (⟨x.key.slot,x.key.dir,(nbL g x.key.dir vn)[k]⟩:KeyD)) rfl (rld (B:=B3) rfl (rA (rbuild (cs:=enc (⟨⟨x.key.slot,x.key.dir,(nbL g x.key.dir vn)[k]⟩,x.d+1⟩:StD)) rfl (rbs1 (⟨⟨x.key.slot,x.key.dir,(nbL g x.key.dir vn)[k]⟩,x.d+1⟩:StD) rfl rfl (by decide) λb7 u7 n7 _ S7=>rapp1 (u:=w5) ⟨rfl,rfl⟩ (O.up (w':=u7)) S7 (by unfold sendL;simp;omega) λv8 u8 O8 f8 s8=>?_))))
     have O8':Own w5.heap.size E.qb u8 v8 (sendL x ((nbL g x.key.dir vn).take (k+1))):=by rw [zDc x hka];exact O8
     exact rA ⟨rfl,hka,O8',stp⟩
    ·have q_:k=(nbL g x.key.dir vn).length:=by omega
     obtain rfl:=q_
     have O8':Own w.heap.size E.qb u v6 (nextL g q x):=by rw [en',<-List.take_length (l:=nbL g x.key.dir vn)];exact O.mono (Le.size (a:=w) (b:=w5))
     exact⟨⟨_,rfl,O8'⟩,stp⟩
  ·have hgo:¬(q.kind=3/\q.rad<=x.d):=λh=>h3 (by rw [hk.1];exact h.1)
   have en':nextL g q x=sendL x (nbL g x.key.dir vn):=by
    unfold nextL sendL
    rw [if_neg hgo,hvn];rfl
   have il:=zC4 (nbL g x.key.dir vn)
   have q_:=O5.shape
   obtain⟨la,lc,rfl⟩:=q_
   have S5:=O5.sl
   refine cnt1 TBok 69 [13] 11 69 (nbL g x.key.dir vn).length (λk v u=>Own w5.heap.size E.qb u v (sendL x ((nbL g x.key.dir vn).take k))/\Stp w5 u) rfl rfl ⟨Own.nil _ _ _,stp⟩ ?_
   rintro k v6 G u hkk ⟨O,su⟩
   refine ite (λhlt=>?_) (λhge=>?_)
   ·have hka:k<(nbL g x.key.dir vn).length:=by omega
    refine rix (S5.up (w':=u)) (i:=k) (x:=((nbL g x.key.dir vn)[k]:Int)) (zC3 hka) λb6 o6 A6=>rload1 (A6.cell0 rfl) (rld (B:=B3) rfl (rld (B:=B3) rfl ?_))
    refine rbuild (cs:=enc (⟨x.key.slot,x.key.dir,(nbL g x.key.dir vn)[k]⟩:KeyD)) rfl (rld (B:=B3) rfl (rA (rbuild (cs:=enc (⟨⟨x.key.slot,x.key.dir,(nbL g x.key.dir vn)[k]⟩,x.d+1⟩:StD)) rfl (rbs1 (⟨⟨x.key.slot,x.key.dir,(nbL g x.key.dir vn)[k]⟩,x.d+1⟩:StD) rfl rfl (by decide) λb7 u7 n7 _ S7=>rapp1 (u:=w5) ⟨rfl,rfl⟩ (O.up (w':=u7)) S7 (by unfold sendL;simp;omega) λv8 u8 O8 f8 s8=>?_))))
    have O8':Own w5.heap.size E.qb u8 v8 (sendL x ((nbL g x.key.dir vn).take (k+1))):=by rw [zDc x hka];exact O8
    exact rA ⟨rfl,hka,O8',stp⟩
   ·have q_:k=(nbL g x.key.dir vn).length:=by omega
    obtain rfl:=q_
    have O8':Own w.heap.size E.qb u v6 (nextL g q x):=by rw [en',<-List.take_length (l:=nbL g x.key.dir vn)];exact O.mono (Le.size (a:=w) (b:=w5))
    exact⟨⟨_,rfl,O8'⟩,stp⟩
abbrev wkX (B b1 bw:Nat) (v:Value) (ne:Prop):Nat->Prop:=λi=>i<B\/i=b1\/i=bw\/(ne/\Value.blk v=some i)
structure WrkD (w0:World) (xq:RQ) (xr:RRow) (L:List StD) (a:Option Addr) (c b1 bw:Nat) (u:World):Prop where
 k0:Kp (λi=>i<w0.heap.size) w0 u
 b:Bk u b1 [.pointer (some ⟨bw,0,none⟩)] E.yf
 w:Bk u bw (enc xq++enc xr++[.slice a L.length c,.int .i64 0]) E.yu
 l:SlF u (.slice a L.length c) L
theorem WrkD.kp{w0:World}{xq:RQ}{xr:RRow}{L:List StD}{c b1 bw:Nat}(h:WrkD w0 xq xr L a c b1 bw u)(k:Kp (wkX w0.heap.size b1 bw (.slice a L.length c) (L≠[])) u u'):WrkD w0 xq xr L a c b1 bw u':=
 ⟨h.k0.trans ⟨λi o ho hr hb=>k.k i o ho hr (.inl hb)⟩,h.b.kp k (.inr (.inl rfl)),h.w.kp k (.inr (.inr (.inl rfl))),h.l.kp k λhl b hb=>.inr (.inr (.inr ⟨hl,hb⟩))⟩
theorem SlF.kp0{α:Type}[Enc α]{w0:World}{v:Value}{l:List α}(h:SlF w0 v l)(k:Kp (λi=>i<w0.heap.size) w0 u):SlF u v l:=
 h.kp k λhl b hb=>by obtain⟨g,h1,h2⟩:=h.lt hl;rw [hb] at h1;cases h1;exact h2
theorem RwF.kp0{w0:World}{x:RRow}{r:List EdN}(h:RwF w0 x g r)(k:Kp (λi=>i<w0.heap.size) w0 u):RwF u x g r:=
 ⟨h.rev',h.off.kp0 k,h.to.kp0 k,h.rof.kp0 k,h.rev.kp0 k⟩
def OkX (g:GrD) (x:StD):Prop:=mayX x/\x.key.v<g.n
theorem zNB{r:List EdN}{w0:World}{xq:RQ}{xr:RRow}{L:List StD}{c b1 bw:Nat}(hg:GrIs g)(R:RwF w0 xr g r)(hk:xq.kind=q.kind/\xq.rad=q.rad)(hL:∀x∈L,OkX g x)(hn:L.length<=100000):
  SeqG PP F.qr [] [.pointer (some ⟨b1,0,none⟩)] Ext (Kp (wkX w0.heap.size b1 bw (.slice a L.length c) (L≠[]))) (WrkD w0 xq xr L a c b1 bw)
  (λys x u=>∃h:ys.length<L.length,∃v,x=[agg L[ys.length],v]/\Own 0 E.qb u v (nextL g q L[ys.length])) (λys=>ys.length=L.length):=by
 refine⟨λy J Jx w hJ hJx hY h0 D0=>?_⟩
 refine en TBok rfl ?_
 refine rld (B:=D0.b) rfl (rld (B:=D0.w) rfl (cnt TBok 13 [4,5,6,7] 13 L.length (λk u=>∃ys,ys.length=k/\J ys u/\WrkD w0 xq xr L a c b1 bw u) rfl rfl ⟨[],rfl,h0,D0⟩ ?_))
 rintro k g' u hkk ⟨ys,hys,hj,D⟩
 refine ite (λhlt=>?_) (λhge=>?_)
 ·have hka:k<L.length:=by omega
  have q_:=hL _ (List.getElem_mem hka)
  obtain⟨hm1,hm2⟩:=q_
  refine rix D.l (x:=L[k]) (by simp) λb4 o4 A4=>rloadA A4 rfl (ral λb5 u5 n5 z5=>?_)
  have hb5:=n5.b;have hs5:=n5.s
  refine rsto (B:=z5) (vs:=enc L[k]) rfl rfl rfl (Enc.one _) λu6 X6 f6 _=>?_
  have X6:Bk u6 b5 (enc L[k]) E.qb:=X6
  have s6:Stp u u6:=⟨Fr.st (Le.e (a:=u) (b:=u5)) f6 λi hi=>by omega⟩
  refine rldG (ds:=enc L[k].key) (B:=X6) rfl rfl (rld (B:=X6) rfl ?_)
  refine rbuild (cs:=enc L[k]) rfl (ral λb7 u7 n7 z7=>?_)
  have hb7:=n7.b;have hs7:=n7.s
  refine rsto (B:=z7) (vs:=enc L[k]) rfl rfl rfl (Enc.one _) λu8 X8 f8 _=>?_
  have X8:Bk u8 b7 (enc L[k]) E.qh:=X8
  have s8:Stp u6 u8:=⟨Fr.st (Le.e (a:=u6) (b:=u7)) f8 λi hi=>by omega⟩
  have D8:=D.kp (.of_ext (Le.e (a:=u) (b:=u8)))
  clear z5 f6 z7 f8
  refine drawR TBok mixed (λ_=>False) (upF 15 0) (by kernel_rfl) λu9 e9 _=>tld (B:=D8.b) rfl nf (tldG (ds:=enc xq) (B:=D8.w) rfl rfl nf (tld (B:=D8.b) rfl nf (tldG (ds:=enc xr) (B:=D8.w) rfl rfl nf (tldG (ds:=enc L[k]) (B:=X8) rfl rfl nf ?_))))
  have D9:=D8.kp (.of_ext e9.e)
  refine rcall (zJx (q:=q) hg (R.kp0 D9.k0) hk hm1 (by have:=hm1.1.2.2.1;exact this) hm2) ?_
  rintro _ u10 ⟨⟨vn,rfl,O10⟩,e10⟩
  refine⟨e10.e,?_⟩
  refine iF (· rfl) (rldG (ds:=enc L[k]) (B:=X8) rfl rfl ?_)
  have hj10:=hJ _ _ _ hj (Le.e (a:=u) (b:=u10))
  have D10:=D9.kp (.of_ext (Le.e (a:=u9) (b:=u10)))
  have hyk:ys.length<L.length:=by omega
  have hx10:Own 0 E.qb u10 vn (nextL g q L[ys.length]):=by have:=O10.mono (Nat.zero_le _);simpa only [hys] using this
  have hxe:agg L[k]=agg L[ys.length]:=by simp only [hys]
  refine ryield (vs:=[agg L[k],vn]) rfl rfl rfl rfl (hY ys u10 _ ⟨hyk,vn,by rw [hxe],hx10⟩ hj10) ?_
  rintro bb u11 ⟨⟨rfl,hj11⟩|⟨rfl,hx11⟩,hK⟩
  ·exact rA ⟨rfl,hka,_,by simp [hys],hj11,D10.kp hK⟩
  ·exact .inr hx11
 ·exact .inl ⟨ys,by omega,hj⟩
theorem zEd{bw:Nat}:Sp PP F.pl #[.pointer (some ⟨bw,0,none⟩)] w λv w'=>(∃b1,v=.func (.func F.qr) #[] #[.pointer (some ⟨b1,0,none⟩)]/\Nx w w' b1/\Bk w' b1 [.pointer (some ⟨bw,0,none⟩)] E.yf):=by
 refine en TBok rfl ?_
 refine rbx λb1 w1 n1 B1=>?_
 exact⟨b1,rfl,n1,B1⟩
theorem zLN{x:StD}{bn:Nat}{n:Int}(N:Bk w bn [.int .i64 n] E.qa):Sp PP F.y0 #[agg x,.pointer (some ⟨bn,0,none⟩)] w λv w'=>Tells (x.key.v≥n) v/\Stp w w':=by
 refine en TBok rfl ?_
 refine rbx λb1 w1 n1 B1=>rld (B:=B1) rfl (rld (B:=N) rfl ?_)
 exact ite (λh=>⟨.t h,stp⟩) (λh=>⟨.f h,stp⟩)
theorem zLD{α:Type}(f:α->Int)(l:List α)(W:Nat):(((List.range W).flatMap λp:Nat=>l.filter λx=>decide (f x=(p:Int)))).Perm (l.filter λx=>decide (0<=f x/\f x<W)):=by
 induction W with
 |zero =>
  have:(l.filter λx=>decide (0<=f x/\f x<((0:Nat):Int)))=[]:=List.filter_eq_nil_iff.2 λx _=>by simp <;> omega
  rw [this];exact .refl _
 |succ W ih =>
  rw [List.range_succ,List.flatMap_append]
  refine(ih.append_right _).trans ?_
  clear ih
  simp only [List.flatMap_cons,List.flatMap_nil,List.append_nil]
  induction l with
  |nil=>exact .refl _
  |cons x r ih =>
   by_cases h1:0<=f x/\f x<(W:Int)
   ·have h2:¬f x=(W:Int):=by omega
    have h3:0<=f x/\f x<((W+1:Nat):Int):=by omega
    rw [List.filter_cons_of_pos (by simpa using h1),List.filter_cons_of_neg (by simpa using h2),List.filter_cons_of_pos (by simpa using h3)]
    exact ih.cons x
   ·by_cases h2:f x=(W:Int)
    ·have h3:0<=f x/\f x<((W+1:Nat):Int):=by omega
     rw [List.filter_cons_of_neg (by simpa using h1),List.filter_cons_of_pos (by simpa using h2),List.filter_cons_of_pos (by simpa using h3)]
     exact List.perm_middle.trans (ih.cons x)
    ·have h3:¬(0<=f x/\f x<((W+1:Nat):Int)):=by omega
     rw [List.filter_cons_of_neg (by simpa using h1),List.filter_cons_of_neg (by simpa using h2),List.filter_cons_of_neg (by simpa using h3)]
     exact ih
def homV (W:Nat) (v:Int):Value:=if 0<=v/\v<=1000000/\1<=W/\W<=16 then .tuple #[.int .i64 (homW W v),.bool true] else .tuple #[.int .i64 0,.bool false]
theorem zKQ{W:Nat}(h:1<=W)(v:Int):∃p:Nat,homW W v=p/\p<W:=by
 have h1:=Int.emod_nonneg ((v*40503+12345) % 65536) (show (W:Int)≠0 by omega)
 have h2:=Int.emod_lt_of_pos ((v*40503+12345) % 65536) (show (0:Int)<W by omega)
 exact⟨(homW W v).toNat,by unfold homW;omega,by unfold homW;omega⟩
theorem zCi{v:Int}{W:Nat}:Sp PP F.qas #[.int .i64 v,.int .i64 (W:Int)] w λr w'=>r=homV W v/\w'=w:=by
 have no:¬(0<=v/\v<=1000000/\1<=W/\W<=16)->homV W v=.tuple #[.int .i64 0,.bool false]:=λh=>by unfold homV;rw [if_neg h]
 refine en TBok rfl ?_
 refine ite (λh=>⟨(no (by omega)).symm,rfl⟩) (λh1=>?_)
 refine ite (λh=>⟨(no (by omega)).symm,rfl⟩) (λh2=>?_)
 refine ite (λh=>⟨(no (by omega)).symm,rfl⟩) (λh3=>?_)
 refine ite (λh=>⟨(no (by omega)).symm,rfl⟩) (λh4=>?_)
 have e:homV W v=.tuple #[.int .i64 ((v*40503+12345) % 65536 % W),.bool true]:=by unfold homV homW;rw [if_pos (by omega)]
 rw [e]
 refine rA (rA (rrem (by omega) (by omega) (rrem (Int.emod_nonneg _ (by decide)) (by omega) ?_)))
 exact⟨rfl,rfl⟩
structure RwM where
 s:SV
 l:List StD
instance:Enc RwM:=⟨1,λx=>[.slice x.s.a x.s.n x.s.c],λ_=>rfl,by intro x u hu;simp at hu;subst hu;rfl,by decide⟩
instance:Inhabited RwM:=⟨⟨⟨none,0,0⟩,[]⟩⟩
abbrev RwM.v (x:RwM):Value:=.slice x.s.a x.s.n x.s.c
theorem zKU{v:Value}{l:List StD}(h:SlF w v l):∃x:RwM,v=x.v/\x.l=l:=by
 have q_:=h.shape
 obtain⟨a,c,rfl⟩:=q_
 exact⟨⟨⟨a,l.length,c⟩,l⟩,rfl,rfl⟩
structure RowsM (B:Nat) (w:World) (v:Value) (M:List RwM):Prop where
 top:Own B E.qn w v M
 rows:∀x∈M,Own B E.qb w x.v x.l
 apart:∀i j (hi:i<M.length) (hj:j<M.length),i≠j->∀g,Value.blk M[i].v=some g->Value.blk M[j].v≠some g
 lt:∀x∈M,∀g,Value.blk x.v=some g->g<w.heap.size
theorem RowsM.up[Le w w']{v:Value}{M:List RwM}(R:RowsM B w v M):RowsM B w' v M:=
 ⟨R.top.up,λx hx=>(R.rows x hx).up,R.apart,λx hx g hg=>Nat.lt_of_lt_of_le (R.lt x hx g hg) (Le.size (a:=w) (b:=w'))⟩
theorem RowsM.put{v:Value}{M:List RwM}{x:RwM}(R:RowsM B w v M)(hi:i<M.length)(O1:Own B E.qb w1 x.v x.l)(f1:Fr (ownD B M[i].v) w w1)
  (hb:Value.blk x.v=Value.blk M[i].v\/Value.blk x.v=some w.heap.size)(hb2:∀g,Value.blk x.v=some g->g<w1.heap.size)(O2:Own B E.qn w2 v (M.set i x))(f2:FrT B [E.qn] w1 w2):RowsM B w2 v (M.set i x):=by
 have hmi:M[i]∈M:=List.getElem_mem hi
 refine⟨O2,λy hy=>?_,λp q hp hq hpq g hg hg'=>?_,λy hy g hg=>?_⟩
 ·have q_:=List.mem_iff_getElem.1 hy
  obtain⟨p,hp,rfl⟩:=q_
  rw [List.length_set] at hp
  rw [List.getElem_set]
  split
  ·exact O1.kept f2 (by decide)
  ·rename_i hne
   have:=(R.rows _ (List.getElem_mem hp)).fr f1 λg _ hg hd=>R.apart i p hi hp hne g hd.2.1 hg
   exact this.kept f2 (by decide)
 ·rw [List.length_set] at hp hq
  rw [List.getElem_set] at hg hg'
  split at hg
  ·rename_i hip
   rw [if_neg (by omega)] at hg'
   rcases hb with h|h
   ·rw [h] at hg;exact R.apart i q hi hq (by omega) g hg hg'
   ·rw [h] at hg;cases hg
    exact absurd (R.lt _ (List.getElem_mem hq) _ hg') (Nat.lt_irrefl _)
  ·split at hg'
   ·rcases hb with h|h
    ·rw [h] at hg';exact R.apart i p hi hp (by omega) g hg' hg
    ·rw [h] at hg';cases hg'
     exact absurd (R.lt _ (List.getElem_mem hp) _ hg) (Nat.lt_irrefl _)
   ·exact R.apart p q hp hq hpq g hg hg'
 ·have q_:=List.mem_iff_getElem.1 hy
  obtain⟨p,hp,rfl⟩:=q_
  rw [List.length_set] at hp
  rw [List.getElem_set] at hg
  split at hg
  ·exact Nat.lt_of_lt_of_le (hb2 g hg) f2.size
  ·exact Nat.lt_of_lt_of_le (R.lt _ (List.getElem_mem hp) g hg) (Nat.le_trans f1.size f2.size)
theorem RowsM.zero{v:Value}{K:Nat}(O:Own B E.qn w v (List.replicate K (default:RwM))):RowsM B w v (List.replicate K (default:RwM)):=by
 refine⟨O,λx hx=>?_,λi j hi hj _ g hg=>?_,λx hx g hg=>?_⟩
 ·rw [List.eq_of_mem_replicate hx];exact Own.nil _ _ _
 ·rw [List.getElem_replicate] at hg;cases hg
 ·rw [List.eq_of_mem_replicate hx] at hg;cases hg
def boxL (W:Nat) (l:List StD) (p:Nat):List StD:=l.filter λx=>decide (homW W x.key.v=(p:Int))
theorem zHD(W:Nat)(l:List StD)(p:Nat)(x:StD):boxL W (l++[x]) p=boxL W l p++if homW W x.key.v=(p:Int) then [x] else []:=by
 unfold boxL
 rw [List.filter_append]
 congr 1
 by_cases h:homW W x.key.v=(p:Int) <;> simp [h]
theorem zIP(W:Nat)(l:List StD)(p:Nat):(boxL W l p).length<=l.length:=List.length_filter_le _ _
theorem zIr{c:Nat}{l:List StD}{W:Nat}(h:SlF w (.slice a n c) l)(hn:l.length<=100000)(hW:1<=W/\W<=16)(hm:∀x∈l,mayX x):
  Sp PP F.c9 #[.slice a n c,.int .i64 (W:Int)] w λr w'=>(∃v M,r=.tuple #[v,.int .i64 0]/\RowsM w.heap.size w' v M/\M.length=W/\∀p (hp:p<M.length),M[p].l=boxL W l p)/\Stp w w':=by
 have q_:=h.len
 obtain rfl:=q_
 refine en TBok rfl ?_
 refine rcall (zCi (v:=0) (W:=W)) ?_
 rintro _ w1 ⟨rfl,rfl⟩
 have e0:homV W 0=.tuple #[.int .i64 (homW W 0),.bool true]:=if_pos ⟨by omega,by omega,hW⟩
 rw [e0]
 refine rcall (zCh (h.up (w':=w1)) (by omega)) ?_
 rintro _ w2 ⟨⟨rfl,_⟩|⟨rfl,h2⟩,e2⟩
 case' inr=>exact absurd hm h2
 refine rmk (default:RwM) rfl rfl (by omega) λg w3 O3 s3 hg3=>?_
 have R3:=RowsM.zero O3
 have z2:=e2.e.size
 refine cnt TBok 29 [4,5,10,11,12] 29 l.length (λi u=>(∃M,RowsM w2.heap.size u (.slice (some ⟨g,0,none⟩) W W) M/\M.length=W/\∀p (hp:p<M.length),M[p].l=boxL W (l.take i) p)/\Stp w2 u) rfl rfl
  ⟨⟨_,R3,by simp,λp hp=>by rw [List.getElem_replicate];rfl⟩,stp⟩ ?_
 rintro i g2 u hi ⟨⟨M,R,hM,hrow⟩,e⟩
 have hwu:=Le.size (a:=w2) (b:=u)
 refine ite (λhlt=>?_) (λhge=>?_)
 ·have hka:i<l.length:=by omega
  refine rix (h.up (w':=u)) (x:=l[i]) (by simp) λb4 o4 A4=>rloadA A4 rfl (ral λb5 u5 n5 z5=>?_)
  have hb5:=n5.b;have hs5:=n5.s
  refine rsto (B:=z5) (vs:=enc l[i]) rfl rfl rfl (Enc.one _) λu6 X6 f6 _=>?_
  have X6:Bk u6 b5 (enc l[i]) E.qb:=X6
  have s6:Stp u u6:=⟨Fr.st (Le.e (a:=u) (b:=u5)) f6 λi hi=>by omega⟩
  have hmay:=hm _ (List.getElem_mem hka)
  have q_:=zKQ hW.1 l[i].key.v
  obtain⟨p,hp,hpW⟩:=q_
  refine rld (B:=X6) rfl (rcall (zCi (v:=l[i].key.v) (W:=W)) ?_)
  rintro _ u7 ⟨rfl,rfl⟩
  have e7:homV W l[i].key.v=.tuple #[.int .i64 (p:Int),.bool true]:=by
   rw [<-hp]
   exact if_pos ⟨hmay.1.2.2.2.1,by have:=hmay.1.2.2.2.2;omega,hW⟩
  rw [e7]
  have hpM:p<M.length:=by omega
  have R6:=R.up (w':=u7)
  have hMl:M[p].l.length<=l.length:=by
   rw [hrow p hpM]
   have:=zIP W (l.take i) p
   rw [List.length_take] at this;omega
  have zb5:=X6.lt
  refine drawRT TBok mixed (λi=>i≠b5) (.one 0 (.one 1 (.one 2 (.one 3 (.one 4 (.one 6 (.duo 5 (.one 7 (.one 8 (.one 9 (.one 10 .nil)))) 7 (.lone 5 (.one 8 (.one 9 (.one 10 .nil))))))))))) (by kernel_rfl) λw8 e8 _=>?_
  have R8:=R6.up (w':=w8)
  refine tixO rfl R8.top (x:=M[p]) (by simp) λg9 hg9 _ A9=>tldG (ds:=enc l[i]) (B:=X6) rfl rfl (by simp) ?_
  have zz8:=Le.size (a:=u7) (b:=w8)
  have zz9:=Le.size (a:=w2) (b:=w8)
  have zu5:u.heap.size=b5:=hb5.symm
  have hOb:∀g,Value.blk M[p].v=some g->g<u.heap.size:=R.lt _ (List.getElem_mem hpM)
  have hTb:g9≠b5:=by
   have q:=R.top.lt (by intro h0;rw [h0] at hpM;simp at hpM)
   obtain⟨g',h1,_,h2⟩:=q
   rw [hg9] at h1;cases h1
   omega
  refine⟨?_,?_⟩
  ·refine rload1 (A9.cell0 rfl) ⟨Fr.refl _ _,?_⟩
   refine rbs1 l[i] rfl rfl (by decide) λb10 w10 n10 _ S10=>⟨Fr.fr n10.e,?_⟩
   have R10:=R8.up (w':=w10)
   refine rappD ⟨rfl,rfl⟩ (R10.rows _ (List.getElem_mem hpM)) S10 (by simp) (by have:=Le.size (a:=w2) (b:=w10);omega) (by simp;omega) λv7 u7' O7 f7 hb7=>⟨f7.mono λj hj1 hj=>by
    have:=hOb j hj.2.1
    omega,?_⟩
   have hne:M[p].l++[l[i]]≠[]:=by simp
   have q_:=O7.lt hne
   obtain⟨g7,hg7,_,hg7'⟩:=q_
   have q_:=zKU O7.sl
   obtain⟨x,rfl,hx⟩:=q_
   have T7:=R10.top.kept ((R10.rows _ (List.getElem_mem hpM)).wrote f7 (Nat.le_refl _) (List.mem_singleton.2 rfl)) (by decide)
   refine tixO rfl T7 (x:=M[p]) (by simp) λg8 hg8 _ _=>?_
   refine rstO' rfl x T7 hg8 hpM rfl λu8 O8 f8 _=>⟨f8.mono λj _ hj=>by
    have h1:=hj.2.1
    rw [hg9] at h1
    cases h1;exact hTb,?_⟩
   have F8:=T7.wrote f8 (Nat.le_refl _) (List.mem_singleton.2 (rfl:E.qn=E.qn))
   rw [<-hx] at O7
   have R8':=R10.put hpM O7 f7 hb7 (λg hg=>by rw [hg7] at hg;cases hg;exact hg7') O8 F8
   have s8:Stp w2 u8:=⟨Fr.st (Fr.st (Le.e (a:=w2) (b:=w10)) f7 λi hi=>hi.1) f8 λi hi=>hi.1⟩
   refine rA ⟨rfl,hka,⟨_,R8',by simp [hM],λq hq=>?_⟩,stp⟩
   rw [List.length_set] at hq
   rw [zAa hka,zHD,hp,List.getElem_set]
   split
   ·rename_i hpq;subst hpq;rw [if_pos rfl,hx,hrow _ hpM]
   ·rename_i hpq;rw [if_neg (by omega),List.append_nil];exact hrow q hq
  ·refine rbs1 l[i] rfl rfl (by decide) λb10 w10 n10 _ S10=>⟨Fr.fr n10.e,?_⟩
   refine rload1 ((A9.up (w':=w10)).cell0 rfl) ⟨Fr.refl _ _,?_⟩
   have R10:=R8.up (w':=w10)
   refine rappD ⟨rfl,rfl⟩ (R10.rows _ (List.getElem_mem hpM)) S10 (by simp) (by have:=Le.size (a:=w2) (b:=w10);omega) (by simp;omega) λv7 u7' O7 f7 hb7=>⟨f7.mono λj hj1 hj=>by
    have:=hOb j hj.2.1
    omega,?_⟩
   have hne:M[p].l++[l[i]]≠[]:=by simp
   have q_:=O7.lt hne
   obtain⟨g7,hg7,_,hg7'⟩:=q_
   have q_:=zKU O7.sl
   obtain⟨x,rfl,hx⟩:=q_
   have T7:=R10.top.kept ((R10.rows _ (List.getElem_mem hpM)).wrote f7 (Nat.le_refl _) (List.mem_singleton.2 rfl)) (by decide)
   refine tixO rfl T7 (x:=M[p]) (by simp) λg8 hg8 _ _=>?_
   refine rstO' rfl x T7 hg8 hpM rfl λu8 O8 f8 _=>⟨f8.mono λj _ hj=>by
    have h1:=hj.2.1
    rw [hg9] at h1
    cases h1;exact hTb,?_⟩
   have F8:=T7.wrote f8 (Nat.le_refl _) (List.mem_singleton.2 (rfl:E.qn=E.qn))
   rw [<-hx] at O7
   have R8':=R10.put hpM O7 f7 hb7 (λg hg=>by rw [hg7] at hg;cases hg;exact hg7') O8 F8
   have s8:Stp w2 u8:=⟨Fr.st (Fr.st (Le.e (a:=w2) (b:=w10)) f7 λi hi=>hi.1) f8 λi hi=>hi.1⟩
   refine rA ⟨rfl,hka,⟨_,R8',by simp [hM],λq hq=>?_⟩,stp⟩
   rw [List.length_set] at hq
   rw [zAa hka,zHD,hp,List.getElem_set]
   split
   ·rename_i hpq;subst hpq;rw [if_pos rfl,hx,hrow _ hpM]
   ·rename_i hpq;rw [if_neg (by omega),List.append_nil];exact hrow q hq
 ·have q_:i=l.length:=by omega
  obtain rfl:=q_
  rw [List.take_length] at hrow
  exact⟨⟨_,M,rfl,⟨R.top.mono z2,λx hx=>(R.rows x hx).mono z2,R.apart,R.lt⟩,hM,hrow⟩,stp⟩
end Go.W
namespace Go.W
open Go
open Enc (enc)
variable {B hi i j k m n n2:Nat} {D:Nat -> Prop} {P:Program} {a a2:Option Addr} {g:GrD} {ps:List Int} {q:QyD} {s:List UInt8} {u u' w w' w1 w2:World}
def okK (m:Nat) (keep slots:List Nat) (c:Code):Bool:=okC m keep (4294967296::slots) c && nodupB (4294967296::slots) && !memB slots 4294967296
theorem zLX{keep slots:List Nat}{c:Code}(hok:okC m keep slots c=true){F G:Nat->Value}(h:agree (wr c) F G):
  hdF m keep (zipS slots (mapF G slots)) G F=G:=by
 funext t
 unfold hdF
 rw [zJf]
 cases hm:memB slots t with
 |true=>rfl
 |false =>
  simp only [cond_false]
  cases hk:(Nat.beq t 4294967296 || xor (Nat.blt t m) (memB keep t)) with
  |false=>rfl
  |true =>
   simp only [cond_true]
   cases hw:wr c t with
   |false=>exact(h t hw).symm
   |true =>
    have:=zJk c hok t hw
    simp only [okD,hm,Bool.false_or,hk] at this
    cases this
section
variable {P:Program} {T:Tab} {n:Nat}
theorem loopK(hT:T.ok P=true)(m:Nat)(keep slots:List Nat)(I:Value->List Value->World->Prop)(μ:List Value->World->Nat){body:Code}{Q:KS}{F:Nat->Value}
  (hok:okK m keep slots body=true)(h0:I (F 4294967296) (mapF F slots) w)
  (hr:∀d vs g w,vs.length=slots.length->I d vs w->S P T n body
   { Q with nrm:=λF' w'=>I (F' 4294967296) (mapF F' slots) w'/\μ (mapF F' slots) w'<μ vs w } (hdF m keep ((4294967296,d)::zipS slots vs) g F) w):DeepS P T n (.loop body) Q F w:=by
 rw [zAN]
 intro md hmd a ha
 simp only [okK,Bool.and_eq_true,Bool.not_eq_true'] at hok
 have hmap:∀(A B:Nat->Value),(∀t,t≠4294967296->A t=B t)->mapF A slots=mapF B slots:=by
  intro A B hAB
  have:∀l:List Nat,memB l 4294967296=false->mapF A l=mapF B l:=by
   intro l
   induction l with
   |nil=>intro _;rfl
   |cons s r ih =>
    intro h
    simp only [memB,Bool.or_eq_false_iff] at h
    simp only [mapF]
    rw [ih h.2,hAB s λe=>by subst e;simp at h]
  exact this slots hok.2
 have hdag:∀(G:Nat->Value),agree (wr body) F G->hdF m keep ((4294967296,G 4294967296)::zipS slots (mapF G slots)) G F=G:=λG hG=>zLX (slots:=4294967296::slots) hok.1.1 hG
 refine wpIn_loop (λa' w'=>∃G,Rel n G a'/\agree (wr body) F G/\I (G 4294967296) (mapF G slots) w') (λa' w'=>μ (mapF (λt=>a'.tmps.getD t undef) slots) w') ⟨F,ha,λ_ _=>rfl,h0⟩ ?_
 rintro a' w' ⟨G,hG,hag,hI⟩
 have hlen:(mapF G slots).length=slots.length:=by
  have:∀l,(mapF G l).length=l.length:=by intro l;induction l <;> simp_all [mapF]
  exact this slots
 have hb:=hr (G 4294967296) (mapF G slots) G w' hlen hI
 rw [hdag G hag] at hb
 have hGe:mapF (λt=>a'.tmps.getD t undef) slots=mapF G slots:=hmap _ _ hG.get
 refine Code.wpIn_mono ?_ (zBA hT body _ _ _ hb md hmd a' hG)
 intro e a'' w'' hq
 cases e <;> simp only [KS.lift,Exit.then] at hq ⊢
 ·obtain⟨G',h1,h2,h3,h4⟩:=hq
  have hGe':mapF (λt=>a''.tmps.getD t undef) slots=mapF G' slots:=hmap _ _ h1.get
  refine⟨⟨G',h1,λt ht=>by rw [h2 t ht,hag t ht],h3⟩,?_⟩
  rw [hGe,hGe'];exact h4
 ·obtain⟨G',h1,h2,h3⟩:=hq;exact⟨G',h1,λt ht=>by simp only [wr] at ht;rw [h2 t ht,hag t ht],h3⟩
 ·obtain⟨G',h1,h2,h3⟩:=hq;exact⟨G',h1,λt ht=>by simp only [wr] at ht;rw [h2 t ht,hag t ht],h3⟩
 ·obtain⟨G',h1,h2,h3⟩:=hq;exact⟨G',h1,λt ht=>by simp only [wr] at ht;rw [h2 t ht,hag t ht],h3⟩
theorem cnt1K(hT:T.ok P=true)(m:Nat)(keep:List Nat)(s1 s:Nat)(N:Nat)(I:Nat->Value->Value->World->Prop){body:Code}{Q:KS}{F:Nat->Value}
  (hok:okK m keep [s1,s] body=true)(hs:F s=.int .i64 0)(h0:I 0 (F 4294967296) (F s1) w)
  (hr:∀(k:Nat) d v1 g w,k<=N->I k d v1 w->S P T n body { Q with nrm:=λF' w'=>F' s=.int .i64 ((k:Int)+1)/\k<N/\I (k+1) (F' 4294967296) (F' s1) w' } (hdF m keep [(4294967296,d),(s1,v1),(s,.int .i64 k)] g F) w):DeepS P T n (.loop body) Q F w:=by
 refine loopK hT m keep [s1,s] (λd vs w=>match vs with|[v1,v]=>∃k:Nat,k<=N/\v=.int .i64 k/\I k d v1 w|_=>False) (λvs _=>match vs with|[_,v]=>N - (Go.RowKit.intOf v).toNat|_=>0) hok ⟨0,by omega,hs,h0⟩ ?_
 intro d vs g w hl hI
 match vs,hI with
 |[v1,v],hI =>
  obtain⟨k,hk,rfl,hi⟩:=hI
  refine S_mono _ _ _ _ _ (hr k d v1 g w hk hi) ?_ (λ_ _ _ _ h=>h) (λ_ _ _ h=>h) (λ_ _ _ _ h=>h)
  intro G w' _ h
  obtain⟨h1,h2,h3⟩:=h
  refine⟨⟨k+1,h2,h1,h3⟩,?_⟩
  show N - (Go.RowKit.intOf (G s)).toNat<N - _
  rw [h1]
  show N - ((k:Int)+1).toNat<N - ((k:Int)).toNat
  omega
def mks (Ds:List Nat):List Deferred:=Ds.map λD=>{ target:=.collected D,args:=#[] }
structure Mks (B C:Nat) (d:Value) (u:World):Prop where
 ex:∃Ds,decD d=mks Ds/\Ds.Nodup/\∀D∈Ds,B<=D/\D<C/\u.heap[D]? = some (.deferred (some []))
theorem Mks.fr{E:Nat->Prop}{C:Nat}{d:Value}(h:Mks B C d u)(f:Fr E u u'):Mks B C d u':=by
 obtain⟨Ds,h1,h2,h3⟩:=h
 exact⟨Ds,h1,h2,λD hD=>⟨(h3 D hD).1,(h3 D hD).2.1,f.nc _ _ (h3 D hD).2.2 rfl⟩⟩
theorem Mks.qt{C:Nat}{d:Value}(h:Mks B C d u)(q:Qt C u u'):Mks B C d u':=by
 obtain⟨Ds,h1,h2,h3⟩:=h
 exact⟨Ds,h1,h2,λD hD=>⟨(h3 D hD).1,(h3 D hD).2.1,q.block _ _ (h3 D hD).2.2 (.inl (h3 D hD).2.1)⟩⟩
theorem Mks.lt{C C':Nat}{d:Value}(h:Mks B C d u)(hC:C<=C'):Mks B C' d u:=by
 obtain⟨Ds,h1,h2,h3⟩:=h
 exact⟨Ds,h1,h2,λD hD=>⟨(h3 D hD).1,Nat.lt_of_lt_of_le (h3 D hD).2.1 hC,(h3 D hD).2.2⟩⟩
theorem Mks.nil(B C:Nat)(u:World){d:Value}(h:decD d=[]):Mks B C d u:=⟨[],h,.nil,λ_ h=>nomatch h⟩
theorem Mks.add{C D:Nat}{d:Value}(h:Mks B C d u)(hB:B<=D)(hC:C<=D)(hd:u.heap[D]? = some (.deferred (some []))):Mks B u.heap.size (consD (.pointer (some ⟨D,0,none⟩)) d) u:=by
 obtain⟨Ds,h1,h2,h3⟩:=h
 refine⟨D::Ds,by rw [zCZ _ _ _ rfl,h1];rfl,List.nodup_cons.2 ⟨λhm=>by have:=(h3 D hm).2.1;omega,h2⟩,λE hE=>?_⟩
 rcases List.mem_cons.1 hE with rfl|hE
 ·exact⟨hB,blk_lt hd,hd⟩
 ·exact⟨(h3 E hE).1,blk_lt (h3 E hE).2.2,(h3 E hE).2.2⟩
theorem leaveL{rs:List ResultVar}{F:Nat->Value}{R:Value->World->Prop}{pn:List PanicEntry->World->Prop}:∀(Ds:List Nat) (u:World),Ds.Nodup->(∀D∈Ds,B<=D/\u.heap[D]? = some (.deferred (some []))) ->
  (∀u',Qt B u u'->resS P rs [] F R u')->LeaveS P rs F (mks Ds) .returning R pn u
 |[],u,_,_,h=>leave_ret (h u (.of_ext (Fr.refl _ _)))
 |D::Ds,u,hn,hD,h=>by
  rw [List.nodup_cons] at hn
  have h1:=hD D List.mem_cons_self
  have q:Qt B u (u.putObj D (.deferred none)):=Qt.put h1.2 rfl h1.1
  refine zGN (by intro h;cases h) h1.2 (leaveL Ds _ hn.2 (λE hE=>⟨(hD E (List.mem_cons_of_mem _ hE)).1,?_⟩) λu' q'=>h u' (q.trans q'))
  rw [World.putObj_heap_other]
  ·exact(hD E (List.mem_cons_of_mem _ hE)).2
  ·rintro rfl;exact hn.1 hE
theorem zMm{rs:List ResultVar}{F:Nat->Value}{R:Value->World->Prop}{pn:List PanicEntry->World->Prop}{C:Nat}{d:Value}(hF:F 4294967296=d)(M:Mks B C d u)(h:∀u',Qt B u u'->resS P rs [] F R u'):retS P rs R pn F u:=by
 obtain⟨Ds,h1,h2,h3⟩:=M
 unfold retS
 rw [hF,h1]
 cases Ds with
 |nil=>exact h u (.of_ext (Fr.refl _ _))
 |cons D r=>exact leaveL (D::r) u h2 (λE hE=>⟨(h3 E hE).1,(h3 E hE).2.2⟩) h
end
end Go.W
