/-
  Proved here: the statement that the last theorem names: for every input the law returns true, and the input reads as it did.
  Conditions: none beyond the given rows.
-/
import Derived.Test.YtnanheiakfekdaaGreatDoorTie
import Derived.Test.YtnanheiakfekdaaGreatDoorCards
import Derived.Test.YtnanheiakfekdaaGreatDoorU7
set_option linter.unusedVariables false
set_option linter.unusedSimpArgs false
namespace Go.W
open Go Go.Proofs Go.RowKit
open AK (enc)
set_option maxRecDepth 20000
variable {a:OA} {k n:Nat} {w:World}

def OneL (t:Tx):Prop:=(10:UInt8)∉t/\t≠[]
theorem dgt_ne(h:k<10):UInt8.ofNat (48+k)≠10:=λe=>by
 have b:=congrArg UInt8.toNat e;have c:(10:UInt8).toNat=10:=rfl;rw[c,JZ]at b;omega
theorem dd_one:∀u:Nat,OneL (Lib.decDigits u)
 |u=>by
  rw[Lib.decDigits];split
  ·rename_i h;exact⟨λb=>dgt_ne h (Qc.1 b).symm,by simp⟩
  ·rename_i h;have:=dd_one (u / 10);refine⟨λb=>?_,by simp⟩;have c:=Qf.1 b;rcases c with b|b
   ·exact this.1 b
   ·exact dgt_ne (Nat.mod_lt _ (by decide)) (Qc.1 b).symm
termination_by u=>u
theorem parse_app:∀(l:Tx) (b u k:Nat),Lib.parseUint10 b l=.ok u->k<10->u<1000000000->Lib.parseUint10 b (l++[UInt8.ofNat (48+k)])=.ok (u*10+k)
 |[],b,u,k,h,d,f=>by
  unfold Lib.parseUint10 at h;have h:=Lib.NumEnd.ok.inj h;subst h;show Lib.parseUint10 b [UInt8.ofNat (48+k)]=_;have e:(UInt8.ofNat (48+k)).toNat=48+k:=by rw[JZ];omega
  rw[Lib.parseUint10,e,if_pos (by omega),if_neg (by omega),if_neg (by omega),Lib.parseUint10];congr 1;omega
 |c::r,b,u,k,h,d,f=>by
  rw[Lib.parseUint10]at h;show Lib.parseUint10 b (c::(r++_))=_;rw[Lib.parseUint10];split at h
  ·rename_i g;rw[if_pos g];split at h
   ·cases h
   ·rename_i i;rw[if_neg i];split at h
    ·cases h
    ·rename_i j;rw[if_neg j];exact parse_app r _ u k h d f
  ·cases h
theorem parse_dec:∀n:Nat,n<1000000000->Lib.parseUint10 0 (Lib.decDigits n)=.ok n
 |n,b=>by
  rw[Lib.decDigits];split
  ·rename_i h;have:=parse_app [] 0 0 n rfl h (by decide);rw[Je]at this;rw[this];congr 1;omega
  ·rename_i h;have:=parse_app _ 0 _ (n % 10) (parse_dec (n / 10) (by omega)) (Nat.mod_lt _ (by decide)) (by omega);rw[this];congr 1;omega
termination_by n=>n
theorem dd_48:∀u:Nat,∀c∈Lib.decDigits u,48<=c.toNat
 |u=>by
  have d:∀k,k<10->48<=(UInt8.ofNat (48+k)).toNat:=λk h=>by rw[JZ];omega
  rw[Lib.decDigits];split
  ·rename_i h;intro c b;rw[Qc.1 b];exact d u h
  ·rename_i h;have e:=dd_48 (u / 10);intro c b;have f:=Qf.1 b;rcases f with b|b
   ·exact e c b
   ·rw[Qc.1 b];exact d _ (Nat.mod_lt _ (by decide))
termination_by u=>u
theorem numD_dec(h:n<=1000000)(d:(Lib.decDigits n).length<=7):Bx (Lib.decDigits n)=some (n:Int):=by
 have e:Lib.atoiAll (Lib.decDigits n)=.ok (n:Int):=by
  have f:=parse_dec n (by omega);have b:=(dd_one n).2;have hd:=dd_48 n;unfold Lib.atoiAll;split
  ·rename_i h0;exact absurd h0 b
  ·rename_i c r h0;rw[h0]at hd;have g:=hd c (by simp);rw[if_neg (by omega),Lib.parseMag,if_neg b,f];dsimp only;rw[if_neg (by omega),if_neg (by omega),if_neg (by omega)]
 unfold Bx;rw[e];dsimp only;rw[if_pos ⟨by omega,by omega,d,by unfold Lib.itoa;rw[if_neg (by omega),QW]⟩]

theorem r28_digits_sp(i:n<=1000000000):Sp PP 70 #[.int .i64 (n:Int)] w λv w'=>v=Ag (Lib.decDigits n)/\AC w w':=by
 refine eN ?_;refine Kl (by omega) (by omega) ?_;refine rF (48+n % 10) (HR (cV (x:=48+n % 10) (by omega)) (bS (UInt8.ofNat (48+n % 10)) λj l p _ c=>RV c ?_))
 refine HG Aa 4 [] 0 3 (λv o u=>∃(m:Nat) (r:Tx),v=.int .i64 (m:Int)/\m<=n/\o=Ag (UInt8.ofNat (48+m % 10)::r)/\Lib.decDigits n=Lib.decDigits m++r/\r.length<=n - m/\AC w u) (λv _ _=>(Go.RowKit.intOf v).toNat) rfl
  ⟨n,[],rfl,Qe _,rfl,by simp,by simp,stp⟩ ?_
 rintro _ _ g u ⟨m,r,rfl,t,rfl,b,y,e⟩;refine ite (λd=>?_) (λAY=>?_)
 ·have hd:Lib.decDigits m=Lib.decDigits (m / 10)++[UInt8.ofNat (48+m % 10)]:=by rw[Lib.decDigits,dif_neg (by omega)]
  refine Nr (q:=((m / 10:Nat):Int)) (by omega) (by rw[Xp (by omega)];omega) (by omega) ?_;refine Kl (by omega) (by omega) ?_;refine rF (48+m / 10 % 10) (HR (cV (x:=48+m / 10 % 10) (by omega)) (bS (UInt8.ofNat (48+m / 10 % 10)) λz A B _ f=>RV f ?_));refine FD (s:=[UInt8.ofNat (48+m / 10 % 10)]) (m:=UInt8.ofNat (48+m % 10)::r) (by simp;omega) ?_;refine⟨⟨m / 10,_,rfl,by omega,rfl,by rw[b,hd,Qp];rfl,by simp;omega,stp⟩,?_⟩;show((m / 10:Nat):Int).toNat<((m:Nat):Int).toNat;omega
 ·have hd:Lib.decDigits m=[UInt8.ofNat (48+m)]:=by rw[Lib.decDigits,dif_pos (by omega)]
  have h:UInt8.ofNat (48+m % 10)::r=Lib.decDigits n:=by rw[b,hd,show m % 10=m by omega];rfl
  exact⟨congrArg Ag h,stp⟩
def NumR (s:Tx) (v:Value):Prop:=∃n:Int,v=.int .i64 n/\-1<=n/\n<=1000000/\(0<=n->Bx s=some n)
theorem NumR.no(s:Tx):NumR s (.int .i64 (-1)):=⟨-1,rfl,by decide,by decide,λh=>absurd h (by decide)⟩
theorem r28_number_sp{s:Tx}:Sp PP 40 #[Ag s] w λv w'=>NumR s v/\AC w w':=by
 have g:=AM s;refine eN ?_;refine ite (λh=>⟨.no s,stp⟩) (λj=>?_);refine ite (λh=>⟨.no s,stp⟩) (λl=>?_);refine cO 5 [2] 3 4 s.length (λi v u=>∃x:Nat,v=.int .i64 (x:Int)/\x<10 ^ i/\AC w u) ?_ ?_
 ·exact⟨0,rfl,by decide,stp⟩
 rintro i _ G u hi ⟨x,rfl,m,o⟩;have p:10 ^ i<=10 ^ 7:=XR (by decide) (by omega);have e:x<=10000000:=by omega
 refine ite (λAY=>?_) (λf=>?_)
 ·have b:i<s.length:=by omega
  refine FT (i:=i) (c:=s[i]) (by simp) (ite (λh=>⟨.no s,stp⟩) (λq=>?_));refine FT (i:=i) (c:=s[i]) (by simp) (ite (λh=>⟨.no s,stp⟩) (λr=>?_));refine rF (10*x) (FT (i:=i) (c:=s[i]) (by simp) (HR (z:=(s[i].toNat:Int)) (TR (by omega) (by omega)) (rF (10*x+s[i].toNat) (rF (10*x+s[i].toNat - 48) ?_))));exact rA ⟨rfl,b,_,rfl,by rw[XS];omega,stp⟩
 ·refine AA (r28_digits_sp (n:=x) (by omega)) ?_;rintro _ t ⟨rfl,y⟩;refine Sd (λh=>⟨.no s,stp⟩) (λh5=>?_);have d:Lib.decDigits x=s:=ST h5;refine ite (λh=>⟨.no s,stp⟩) (λA=>?_);exact⟨⟨x,rfl,by omega,by omega,λ_=>by rw[<-d];exact numD_dec (by omega) (by rw[d];omega)⟩,stp⟩
def PickR (s:Tx) (v:Value):Prop:=∃(n:Int) (b:Bool),v=.tuple #[.int .i64 n,.bool b]/\(b=true->∃m,Do s=some m)
theorem pick_45{s:Tx}{h:0<s.length}(e:s[0].toNat=45):[45] <+: s:=by
 cases s with
 |nil=>exact absurd h (by decide)
 |cons c r=>exact⟨r,by rw[show c=45 from UInt8.toNat_inj.1 e];rfl⟩
theorem pick_no{s:Tx}{h:0<s.length}(e:s[0].toNat≠45):¬[45] <+: s:=by
 cases s with
 |nil=>exact absurd h (by decide)
 |cons c r=>rintro⟨t,b⟩;exact e (by have:=(List.cons.inj b).1;show c.toNat=45;rw[<-this];rfl)
theorem r28_pick_sp{s:Tx}:Sp PP 41 #[Ag s] w λv w'=>PickR s v/\AC w w':=by
 have j:=AM s
 have fin:∀{n:Int},(∀h:0<s.length,s[0].toNat≠45)->(0<=n->Bx s=some n)->0<=n->∃m,Do s=some m:=by
  intro n d l o;refine⟨n,?_⟩;unfold Do;rw[if_neg,l o];by_cases h:0<s.length
  ·exact pick_no (d h)
  ·have:s=[]:=Qn (by omega);subst this;rintro⟨t,p⟩;cases p
 refine eN ?_;refine ite (λh0=>?_) (λh0=>?_)
 ·have q:0<s.length:=by omega
  refine FT (i:=0) (c:=s[0]) (by simp) (ite (λd=>?_) (λd=>?_))
  ·refine Ks (lo:=1) rfl (by omega) ?_
   have e:(⟨s.toArray⟩:ByteArray).extract 1 (⟨s.toArray⟩:ByteArray).size=⟨(s.drop 1).toArray⟩:=by
    rw[j,Na,<-QR,Qg]
   rw[e];refine AA r28_number_sp ?_;rintro _ f ⟨⟨n,rfl,n1,n2,b⟩,g⟩;refine YX λm r=>?_;refine ite (λhb=>⟨⟨_,_,rfl,λ_=>⟨-n,?_⟩⟩,stp⟩) (λ_=>⟨⟨_,_,rfl,λh=>absurd h (by decide)⟩,stp⟩);have hb:0<n:=by omega
   unfold Do;rw[if_pos (pick_45 (h:=q) (by omega)),b (by omega)];exact if_pos hb
  ·refine AA r28_number_sp ?_;rintro _ f ⟨⟨n,rfl,n1,n2,b⟩,g⟩;exact ite (λhb=>⟨⟨_,_,rfl,λ_=>fin (λ_ h=>d (by omega)) b (by omega)⟩,stp⟩) (λ_=>⟨⟨_,_,rfl,λh=>absurd h (by decide)⟩,stp⟩)
 ·refine AA r28_number_sp ?_;rintro _ f ⟨⟨n,rfl,n1,n2,b⟩,g⟩;exact ite (λhb=>⟨⟨_,_,rfl,λ_=>fin (λh=>absurd h (by omega)) b (by omega)⟩,stp⟩) (λ_=>⟨⟨_,_,rfl,λh=>absurd h (by decide)⟩,stp⟩)
theorem r28_form_sp:Sp PP 39 #[Ag (AZ .tick)] w λv w'=>v=.tuple #[Ag [],Ag [112],.bool true,.bool true]/\w'=w:=by
 refine eN ?_;refine DL (λh=>absurd h (by decide)) (λ_=>?_);refine DL (λh=>absurd h (by decide)) (λ_=>?_);refine DL (λh=>absurd h (by decide)) (λ_=>?_);refine DL (λh=>absurd h (by decide)) (λ_=>?_);refine DL (λh=>absurd h (by decide)) (λ_=>?_);refine DL (λh=>absurd h (by decide)) (λ_=>?_);refine DL (λh=>absurd h (by decide)) (λ_=>?_);refine DL (λh=>absurd h (by decide)) (λ_=>?_);refine DL (λh=>absurd h (by decide)) (λ_=>?_);refine DL (λh=>absurd h (by decide)) (λ_=>?_);exact DL (λ_=>⟨rfl,rfl⟩) (λh=>absurd rfl h)
theorem prt_out{y:UInt8}:∀{s p:Tx},p∈Bj y s->y∉p
 |[],p,h=>by
  have h:p∈[([]:Tx)]:=h;rw[Qc.1 h];simp
 |c::r,p,h=>by
  have b:=@prt_out y r;have f:=aT y r;unfold Bj at h;split at h
  ·have d:=Ql.1 h;rcases d with rfl|h
   ·simp
   ·exact b h
  ·rename_i g;split at h
   ·rename_i h0;exact absurd h0 f
   ·rename_i a q h0;have d:=Ql.1 h;rcases d with rfl|h
    ·rw[Ql,not_or];exact⟨λe=>g e.symm,b (by rw[h0];simp)⟩
    ·exact b (by rw[h0];exact QF _ h)
def flT (l:List Tx):Tx:=l.flatMap (·++[10])
theorem fl_cons(a:Tx)(l:List Tx):flT (a::l)=a++10::flT l:=by simp[flT]
theorem fl_app(l m:List Tx):flT (l++m)=flT l++flT m:=by simp[flT]
theorem fl_ge:∀l:List Tx,l.length<=(flT l).length
 |[]=>Qe _
 |a::l=>by have:=fl_ge l;rw[fl_cons];simp only[Qb,QA];omega
theorem prt_sum(y:UInt8):∀s:Tx,(flT (Bj y s)).length=s.length+1
 |[]=>rfl
 |c::r=>by
  have b:=prt_sum y r;unfold Bj;split
  ·rw[fl_cons];simp only[Je,QA];omega
  ·split
   ·rename_i h0;exact absurd h0 (aT y r)
   ·rename_i a q h0;rw[h0]at b;rw[fl_cons]at b ⊢;simp only[Qb,QA]at b ⊢;omega
theorem line_mem{s p:Tx}(h:p∈AE s):(10:UInt8)∉p:=by
 unfold AE at h;split at h
 ·cases h
 ·exact prt_out h
theorem line_sum(s:Tx):(flT (AE s)).length<=s.length+1:=by
 unfold AE;split
 ·exact XE _
 ·rw[prt_sum];split
  ·rw[List.length_dropLast];omega
  ·exact Qe _
theorem lines_fl:∀{l:List Tx},(∀a∈l,(10:UInt8)∉a)->AE (flT l)=l
 |[],_=>rfl
 |a::r,h=>by rw[fl_cons,Zx (h a (by simp)),lines_fl λx b=>h x (QF _ b)]
def CalR (a b:Tx):Prop:=(∀d,AT d a=AT d b)/\b.length<=a.length/\(10:UInt8)∉b
def CalL:List Tx->List Tx->Prop
 |[],[]=>True
 |a::l,b::m=>CalR a b/\CalL l m
 |_,_=>False
theorem CalL.snoc:∀{l m:List Tx} {a b:Tx},CalL l m->CalR a b->CalL (l++[a]) (m++[b])
 |[],[],_,_,_,h=>⟨h,trivial⟩
 |_::_,_::_,_,_,h,k=>⟨h.1,CalL.snoc h.2 k⟩
 |[],_::_,_,_,h,_=>h.elim
 |_::_,[],_,_,h,_=>h.elim
theorem CalL.run:∀{l m:List Tx},CalL l m->∀d,BK d l=BK d m
 |[],[],_,_=>rfl
 |a::l,b::m,h,d=>by show(AT d a).1++[10]++BK (AT d a).2 l=(AT d b).1++[10]++BK (AT d b).2 m;rw[h.1.1 d,CalL.run h.2]
 |[],_::_,h,_=>h.elim
 |_::_,[],h,_=>h.elim
theorem CalL.len:∀{l m:List Tx},CalL l m->(flT m).length<=(flT l).length
 |[],[],_=>Qe _
 |a::l,b::m,h=>by
  have c:=CalL.len h.2;have d:=h.1.2.1;rw[fl_cons,fl_cons];simp only[Qb,QA];omega
 |[],_::_,h=>h.elim
 |_::_,[],h=>h.elim
theorem CalL.no:∀{l m:List Tx},CalL l m->∀a∈m,(10:UInt8)∉a
 |[],[],_,_,h=>by cases h
 |_::_,b::m,h,a,c=>by
  have d:=Ql.1 c;rcases d with rfl|c
  ·exact h.1.2.2
  ·exact CalL.no h.2 a c
 |[],_::_,h,_,_=>h.elim
 |_::_,[],h,_,_=>h.elim
theorem words_picks:∀(r:List Tx) (i:Nat),(∀x∈r,∃m,Do x=some m)->∃p,BJ [] false i r=some p
 |[],_,_=>⟨_,rfl⟩
 |x::r,i,h=>by
  have b:=words_picks r (i+1) λy c=>h y (QF _ c);obtain⟨p,d⟩:=b;have b:=h x (by simp);obtain⟨m,e⟩:=b;unfold BJ;rw[if_neg (by simp),if_pos (by simp),e,d];exact⟨_,rfl⟩
theorem told_tick{d : DF}{s : Tx}{r : List Tx}(c : Bj 32 s = AZ .tick :: r)(h : ∀ x ∈ r, ∃ m, Do x = some m) : AT d s = AT d (AZ .tick) := by
  have f := words_picks r 0 h;obtain⟨p, b⟩ := f
  have b : Bf (CS .tick) (Cl .tick) (Cc .tick) r = some p := by
    unfold Bf;rw[if_neg (by simp[CS, Cc])];exact b
  have g : AT d s = if CV .tick = true /\ d.s.isNone = true then(KH, d) else match EW d .tick p.1 p.2 with
        | .ok r => r
        | .error e => (Ih e, d) := by
    unfold AT;rw[c];dsimp only;rw[y8];dsimp only;rw[b];rfl
  rw[g];rfl
theorem cal_tick{s:Tx}{r:List Tx}(b:Bj 32 s=AZ .tick::r)(h:∀x∈r,∃m,Do x=some m):CalR s (AZ .tick):=by
 refine⟨λd=>told_tick b h,?_,by decide⟩;have c:=prt_sum 32 s;rw[b,fl_cons]at c;simp only[Qb,QA]at c;omega

theorem r28_Reads_sp{l:List Tx}{c:Nat}(S:AQ w (.slice a (l.length+1) c) (Ej (AZ .tick::l)))(t:l.length<=1000000):Sp PP 18 #[.slice a (l.length+1:Nat) c] w λv w'=>(∃b,v=.bool b/\(b=true->∀x∈l,∃m,Do x=some m))/\AC w w':=by
 refine eN ?_;refine Bv (l:=Ej (AZ .tick::l)) S (i:=0) (x:=(⟨(AZ .tick).toArray⟩:ByteArray)) rfl λb o A=>AF (A.cell0 rfl) (AA r28_form_sp ?_);rintro _ p ⟨rfl,rfl⟩;refine rI (l.length:Int) (iF (by show ¬(l.length:Int)<0;omega) (ite (λ_=>?_) (λ_=>?_)))
 case' refine_1=>refine DL (λh=>absurd h (by decide)) (λ_=>?_)
 all_goals
  refine cN 9 [2] 8 l.length (λi u=>(∀j (h:j<l.length),j<i->∃m,Do l[j]=some m)/\AC p u) ⟨λj h f=>absurd f (Nat.not_lt_zero _),stp⟩ ?_;rintro i G u hi ⟨g,y⟩;refine ite (λAY=>?_) (λq=>?_)
  ·have d:i<l.length:=by omega
   refine iF (by show ¬(i:Int)<0;omega) (iT (by show(0:Int)<=(i:Int);omega) (DL (λ_=>?_) (λh=>absurd rfl h)));refine rF (i+1) (Bv (l:=Ej (AZ .tick::l)) (S.up (w':=u)) (i:=i+1) (x:=(⟨l[i].toArray⟩:ByteArray)) (by simp[Ej]) λb o A=>AF (A.cell0 rfl) (AA r28_pick_sp ?_));rintro _ z ⟨⟨n,b,rfl,hb⟩,B⟩
   cases b with
   |false=>exact⟨⟨_,rfl,λh=>absurd h (by decide)⟩,stp⟩
   |true =>
    refine rA ⟨rfl,d,λj h f=>?_,stp⟩;by_cases e:j=i
    ·subst e;exact hb rfl
    ·exact g j h (by omega)
  ·refine⟨⟨_,rfl,λ_ x r=>?_⟩,stp⟩;have s:=List.getElem_of_mem r;obtain⟨j,e,rfl⟩:=s;exact g j e (by omega)
theorem l28_calm_sp{s:Tx}(W:s.length<=1000000):Sp PP 11 #[Ag s] w λv w'=>(∃m,CalL (AE s) m/\v=Ag (flT m))/\AC w w':=by
 refine eN ?_;refine AA (bG (s:=s) (by omega)) ?_;rintro v w1 ⟨O,X⟩;have L:=line_sum s;have M:=fl_ge (AE s);have g:=O.shape;obtain⟨a,c,rfl⟩:=g;have z:(Ej (AE s)).length=(AE s).length:=Qr ..;rw[z]at O ⊢;refine cO 6 [] 4 5 (AE s).length (λi v u=>∃m,CalL ((AE s).take i) m/\v=Ag (flT m)/\AC w1 u) ⟨[],trivial,rfl,stp⟩ ?_;rintro i _ G u hi ⟨m,p,rfl,Y⟩;refine ite (λAY=>?_) (λN=>?_)
 ·have d:i<(AE s).length:=by omega
  have g:∃t,t=(AE s)[i]:=⟨_,rfl⟩;obtain⟨t,B⟩:=g;have C:(10:UInt8)∉t:=by rw[B];exact line_mem (Qa _)
  have j:(AE s).take (i+1)=(AE s).take i++[t]:=by rw[Cs d,B]
  have I:(flT m).length+(t.length+1)<=s.length+1:=by
   have Z:=p.len
   have P:flT (AE s)=flT ((AE s).take i)++(flT [t]++flT ((AE s).drop (i+1))):=by
    rw[<-fl_app,<-fl_app,<-Qp,<-j,JW]
   have Q:=congrArg List.length P;rw[Qb,Qb,fl_cons,Qb,QA]at Q;omega
  have get:∀{k:KW} {J:PW} {x:World} [Le w1 x],(∀b o,At x b o (enc (⟨t.toArray⟩:ByteArray))->k (.pointer (some ⟨b,o,none⟩)) x)->AI PP (Instr.indexAt 28 (.slice a (AE s).length c) (.int .i64 i)) k J x:=λ{k J x} _ R=>Bv (l:=Ej (AE s)) (O.sl.up (w':=x)) (i:=i) (x:=(⟨t.toArray⟩:ByteArray)) (by rw[QK,Qd d,B];rfl) R;refine get λb o A=>AF (A.cell0 rfl) ?_;refine AA (iR (s:=t) (y:=32) (by omega)) ?_;rintro v2 w2 ⟨q,e2⟩;have S:=prt_sum 32 t
  have g:∃h r,Bj 32 t=h::r:=by
   cases e:Bj 32 t with
   |nil=>exact absurd e (aT _ _)
   |cons h r=>exact⟨h,r,rfl⟩
  obtain⟨h,r,D⟩:=g;have T:r.length<=t.length:=by have:=Wr 32 t;rw[D]at this;simp at this;omega
  rw[D]at q;have g:=q.shape;obtain⟨a2,c2,rfl⟩:=g;have E:(Ej (h::r)).length=r.length+1:=by simp[Ej]
  rw[E]at q ⊢;refine Bv (l:=Ej (h::r)) q.sl (i:=0) (x:=(⟨h.toArray⟩:ByteArray)) rfl λb o A=>AF (A.cell0 rfl) ?_;have f:∀{x:World},AC w1 x->∃K,CalL ((AE s).take (i+1)) K/\Ag (flT m++t++[10])=Ag (flT K)/\AC w1 x:=λU=>⟨m++[t],by rw[j];exact p.snoc ⟨λ_=>rfl,Qe _,C⟩,by rw[fl_app,fl_cons,Qp];rfl,U⟩;refine DL (λF=>?_) (λV=>?_)
  ·have F:h=AZ .tick:=ST F;subst F;refine AA (r28_Reads_sp q.sl (by omega)) ?_;rintro _ w3 ⟨⟨b,rfl,hb⟩,e3⟩
   cases b with
   |true =>
    refine FD (s:=flT m) (m:=[116,105,99,107,10]) (by simp;omega) ?_;exact rA ⟨rfl,d,m++[AZ .tick],by rw[j];exact p.snoc (cal_tick D (hb rfl)),by rw[fl_app];rfl,stp⟩
   |false =>
    refine get λb o A=>AF (A.cell0 rfl) ?_;refine FD (s:=flT m) (m:=t) (by omega) ?_;refine FD (s:=flT m++t) (m:=[10]) (by rw[Qb,VC];omega) ?_;exact rA ⟨rfl,d,f stp⟩
  ·refine get λb o A=>AF (A.cell0 rfl) ?_;refine FD (s:=flT m) (m:=t) (by omega) ?_;refine FD (s:=flT m++t) (m:=[10]) (by rw[Qb,VC];omega) ?_;exact rA ⟨rfl,d,f stp⟩
 ·have H:i=(AE s).length:=by omega
  rw[H,Qg]at p;exact⟨⟨m,p,rfl⟩,stp⟩
theorem l28_DeskPicks_sp{s:Tx}(G:HY w):Sp PP 5 #[Ag s] w λv w'=>v=.bool true/\AC w w':=by
 have e:=AM s;refine eN ?_;refine AA Zs ?_;rintro _ w1 ⟨⟨b,rfl⟩,l⟩
 cases b with
 |true=>exact⟨rfl,stp⟩
 |false =>
  refine ite (λh0=>⟨rfl,stp⟩) (λh0=>?_);have f:s.length<=5000:=by omega
  refine AA (TI (G.up (w':=w1)) (by omega)) ?_;rintro _ o ⟨rfl,p⟩;refine AA (l28_calm_sp (s:=s) (by omega)) ?_;rintro _ g ⟨⟨m,c,rfl⟩,q⟩;have d:(flT m).length<=6000:=by have r:=c.len;have t:=line_sum s;omega
  refine AA (TI (s:=flT m) (G.up (w':=g)) d) ?_;rintro _ i ⟨rfl,u⟩;have j:BK EE (AE s)=BK EE (AE (flT m)):=by rw[lines_fl c.no];exact c.run EE
  refine AA (PE (G.up (w':=i))) ?_;rintro _ x ⟨rfl,y⟩;refine iT rfl (iT rfl ?_);exact DL (λ_=>⟨rfl,stp⟩) (λh=>absurd (by rw[j]) h)
end Go.W
namespace Go.Proofs.YtnanheiakfekdaaGreatDoor
open Go.W Go.ChangeShapes
set_option maxRecDepth 100000
set_option linter.unusedVariables false
theorem w_a{a b:Bool}(h:a=true)(k:b=true):(a && b)=true:=by rw[h,k];rfl
theorem w_l(os:Os)(b:os.Started)(H:Type)(d:TypeId×Value->H):
  ReturnsInHanded {} Tryz.checked os 5 .any (λw args=>(Rows.deskPicksSpec.pre d PP Tryz.f5 Rows.deskPicksRow.domain false w args/\laidMetH PP ED w)/\sizedMet d PP Tryz.f5 (OpenSpec.ofChange Rows.deskPicksSpec) false w args) (Rows.deskPicksSpec.post d PP Tryz.f5 false true false false):=by
 refine dX (C:=Tryz.checked) YG Sy b (by kernel_rfl) Tryz.func5
  (ChangeSpec.witness_shaped (enc:=d) (C:=Tryz.checked) (os:=os) (X:=λw _=>laidMetH PP ED w) false (World.laidAll PP os ED) #[.string ⟨#[]⟩] 8 (World.laidAll_os _ _ _)
   (bR os _) (by kernel_rfl) (by kernel_rfl) (by kernel_rfl) (dB os _)) Np (by kernel_rfl) rfl (tb:=4) (by kernel_rfl) (by kernel_rfl) ?_ ?_
 ·intro ds hd
  match ds,hd with
  |[_],_=>rfl
 ·intro W e args ds ps g i a f c;have a:∀(j:Nat) t v,Tryz.f5.params[j]? = some t->args[j]? = some v->Value.okWide PP W .any e t v:=a;have f:DataW.TrodAll d PP W 0 (λ_=>true) true Tryz.f5.params.toList args.toList ds ps:=f;rw[Tryz.params5]at f a;have c:(DataW.weightsEach PP Tryz.f5.params.toList ds).all (·<=reachBytes)=true:=c;rw[Tryz.params5]at c;have h:=trodAll_one f;obtain⟨k,l,rfl,rfl,h0⟩:=h;have h:=KM (a 0 _ _ rfl rfl) h0 (XX c).1;obtain⟨s,rfl,sb⟩:=h;exact cI (l28_DeskPicks_sp (Lt g i))
noncomputable abbrev w_K(g:Program->FuncId->Func->ChangeSpec->OpenClaim->Bool):=g PP 5 Tryz.f5 Rows.deskPicksSpec Rows.deskPicksRow
theorem w_0:w_K (λP f fn s c=>c.wf (OpenSpec.ofChange s))=true:=by kernel_rfl
theorem w_1:w_K (λP f fn s c=>laidOutB P)=true:=by kernel_rfl
theorem w_2:w_K (λP f fn s c=>mapsRowed P)=true:=by kernel_rfl
theorem w_3:w_K (λP f fn s c=>fn.params.all (P.readableRec ·))=true:=by kernel_rfl
theorem w_4:w_K (λP f fn s c=>namedTie P c.named s.vars)=true:=by kernel_rfl
theorem w_5:w_K (λP f fn s c=>(c.stops==[]))=true:=by kernel_rfl
theorem w_6:w_K (λP f fn s c=>(P.stops==[]))=true:=by kernel_rfl
theorem w_7:w_K (λP f fn s c=>(c.knobs==[]))=true:=by kernel_rfl
theorem w_8:w_K (λP f fn s c=>(P.stopKnobs==[]))=true:=by kernel_rfl
theorem w_9:w_K (λP f fn s c=>(c.inPlace==P.inPlace f))=true:=by kernel_rfl
theorem w_10:w_K (λP f fn s c=>(c.unfollowed==P.unfollowed f))=true:=by kernel_rfl
theorem w_11:w_K (λP f fn s c=>(c.recurses==P.recurses f))=true:=by kernel_rfl
theorem w_12:w_K (λP f fn s c=>(c.named==P.varsNamed f))=true:=by kernel_rfl
theorem w_13:w_K (λP f fn s c=>(c.maps==(fn.params.toList++s.plain.varTypes P).any (P.mapsRec ·)))=true:=by kernel_rfl
theorem w_14:w_K (λP f fn s c=>(c.ifaces==(fn.params.toList++s.plain.varTypes P).any (P.ifacesRec ·)))=true:=by kernel_rfl
theorem w_15:w_K (λP f fn s c=>(c.mapsOut==P.mapsAmong fn.resultTypes.toList))=true:=by kernel_rfl
theorem w_16:w_K (λP f fn s c=>(c.loops==(fn.params.toList++s.plain.varTypes P).any (P.loopsFrom ·)))=true:=by kernel_rfl
theorem w_17:w_K (λP f fn s c=>(c.wideKeys==(fn.params.toList++s.plain.varTypes P++fn.resultTypes.toList).any (P.wideKeysFrom ·)))=true:=by kernel_rfl
theorem w_18:w_K (λP f fn s c=>s.vars.all (P.varReadable ·))=true:=by kernel_rfl
theorem w_19:w_K (λP f fn s c=>fn.resultTypes.all (λt=>P.readableRec t && decide (t<P.types.size)))=true:=by kernel_rfl
theorem w_20:w_K (λP f fn s c=>(c.ifacesOut==fn.resultTypes.toList.any (P.ifacesRec ·)))=true:=by kernel_rfl
theorem w_21:w_K (λP f fn s c=>(c.loopsOut==fn.resultTypes.toList.any (P.loopsFrom ·)))=true:=by kernel_rfl
theorem w_22:w_K (λP f fn s c=>(c.plainKeys==P.plainKeys))=true:=by kernel_rfl
theorem w_23:w_K (λP f fn s c=>c.shortTexts.isNone)=true:=by kernel_rfl
theorem w_24:w_K (λP f fn s c=>P.stopsHeard)=true:=by kernel_rfl
theorem w_25:w_K (λP f fn s c=>P.mayEnter)=true:=by kernel_rfl
theorem w_26:w_K (λP f fn s c=>(c.lifted==P.liftsFinal))=true:=by kernel_rfl
theorem w_27:w_K (λP f fn s c=>(P.make==some c.make))=true:=by kernel_rfl
theorem w_28:w_K (λP f fn s c=>(c.kinds==(if c.domain.isEmpty then[] else fn.params.toList.map λt=>match P.underlying t with|some (.int k)=>some k|_=>none)))=true:=by kernel_rfl
theorem w_29:w_K (λP f fn s c=>(c.pinned==c.pinnedBy))=true:=by kernel_rfl
theorem w_30:w_K (λP f fn s c=>(c.veiled==(fn.params.toList++s.plain.varTypes P++fn.resultTypes.toList).any (P.veiledRec ·)))=true:=by kernel_rfl
theorem w_31:w_K (λP f fn s c=>c.veiledFits P fn.params.toList (fn.params.toList++s.plain.varTypes P++fn.resultTypes.toList))=true:=by kernel_rfl
theorem w_c:joinedFacts PP 5 Tryz.f5 Rows.deskPicksSpec Rows.deskPicksRow=true:=(w_a (w_a (w_a (w_a (w_a (w_a (w_a (w_a (w_a (w_a (w_a (w_a (w_a (w_a (w_a (w_a (w_a (w_a (w_a (w_a (w_a (w_a (w_a (w_a (w_a (w_a (w_a (w_a (w_a (w_a (w_a w_0 w_1) w_2) w_3) w_4) w_5) w_6) w_7) w_8) w_9) w_10) w_11) w_12) w_13) w_14) w_15) w_16) w_17) w_18) w_19) w_20) w_21) w_22) w_23) w_24) w_25) w_26) w_27) w_28) w_29) w_30) w_31)
theorem w_n:PP.funcNamed Rows.deskPicksRow.func=some 5:=by kernel_rfl
theorem w_i:Tryz.f5.isInstance PP Rows.deskPicksRow.origin Rows.deskPicksRow.targs:=of_decide_eq_true (by kernel_rfl)
theorem w_w:Tryz.f5.isWrapper PP Rows.deskPicksRow.wrapper Rows.deskPicksRow.mainSum:=by unfold Func.isWrapper;first|(rw[if_pos (by decide +kernel)];kernel_rfl)|(rw[if_neg (by decide +kernel)];exact⟨rfl,rfl⟩)
theorem deskPicks_holds:Rows.DeskPicksSaid:=
 OpenClaim.holds_of_wide (p:=Tryz.pinned) 5 Tryz.f5 rfl rfl rfl rfl rfl rfl rfl ⟨rfl,rfl,rfl,rfl,rfl⟩ rfl rfl rfl rfl rfl w_n Tryz.func5 w_c w_i w_w
  (λos a H enc _=>w_l os a H enc)
theorem deskPicks_card:Rows.DeskPicksCardSaid:=
 Claim7.holds_tied_plain_at .later [] [.data, .data, .data, .data, .sentinel, .sentinel, .pinned] true (true, "b0dced846b3b3a43fa766eea3dc368acb4278f8c5c550bf406976ed2125d2229") true
  deskPicks_holds (λ_ h=>by cases h) (by kernel_rfl) (λ_ h=>by cases h) deskPicks_row_tie rfl ⟨rfl,rfl⟩ dC rfl
  (λf fn d a=>by
   have b:5=f:=QL (w_n.symm.trans d);obtain rfl:=b;have b:Tryz.f5=fn:=QL (Tryz.func5.symm.trans a);obtain rfl:=b;refine⟨bQ,λj t c=>?_⟩;rw[Tryz.params5]at c;have g:t∈[9]:=by simpa using Array.mem_of_getElem? c
   have e:t=9:=by simpa using g
   rw[e];exact Sv)
  (bK TJ rfl)
#print axioms deskPicks_card
end Go.Proofs.YtnanheiakfekdaaGreatDoor
