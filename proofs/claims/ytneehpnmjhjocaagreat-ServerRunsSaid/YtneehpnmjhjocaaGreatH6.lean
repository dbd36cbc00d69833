/-
  Proved here: parts of this claim.
  Conditions: told at each.
-/
import Derived.Test.YtneehpnmjhjocaaGreatH5
set_option maxHeartbeats 4000000
set_option linter.unusedVariables false
set_option linter.unusedSimpArgs false
namespace Go.W
open Go Go.Proofs
open Enc (enc)
set_option maxRecDepth 10000
variable {B N i j k m n n2 n3:Nat} {D:Nat -> Prop} {P:Program} {a a2 a3:Option Addr} {g:GrD} {q:QyD} {s:List UInt8} {u u' w' w1 w2:World}
def plB (p:List Nat×List (List UInt8)):List UInt8:=rowB p.1++(numB p.2.length++p.2.flatMap λx=>numB x.length++x)
def wdsB (l:List ByteArray):List UInt8:=numB l.length++l.flatMap textB
def plG (g:GrD) (v:Nat):List UInt8:=rowB (nbL g 0 v)++wdsB (g.ws.getD v [])
def imK (g:GrD) (k:Nat):List UInt8:=[119,103]++numB g.n++(List.range k).flatMap (plG g)
theorem zBW{α:Type}{f:List UInt8->Option (α×List UInt8)}{B:α->List UInt8}(h:∀r x t,f r=some (x,t)->r=B x++t):∀(n:Nat) (r:List UInt8) (l:List α) (t:List UInt8),rdMany f n r=some (l,t)->r=l.flatMap B++t/\l.length=n
 |0,r,l,t,e=>by
  simp only [rdMany,JK,Xm] at e;obtain⟨rfl,rfl⟩:=e;simp
 |n+1,r,l,t,e=>by
  simp only [rdMany] at e;split at e
  ·cases e
  ·rename_i x v b;split at e
   ·cases e
   ·rename_i l' u c;cases e;have d:=zBW h n _ _ _ c;obtain⟨o,p⟩:=d;refine⟨?_,by simp [p]⟩;rw [h _ _ _ b,o,JV,Qp]
theorem zLR{r t:List UInt8}{l:List Nat}(h:rdRow r=some (l,t)):r=rowB l++t:=by
 unfold rdRow at h;split at h
 ·rename_i n o b;split at h
  ·have c:=zBW (B:=numB) (λr x t e=>(zAu.1 e).2) _ _ _ _ h;obtain⟨d,f⟩:=c;rw [(zAu.1 b).2,d];unfold rowB;rw [f,Qp]
  ·cases h
 ·cases h
theorem zFC{r t x:List UInt8}(h:rdT r=some (x,t)):r=(numB x.length++x)++t:=by
 unfold rdT at h;split at h
 ·rename_i n d b;split at h
  ·rename_i c;cases h;rw [(zAu.1 b).2,Qm,VB c.2,Qp,JW]
  ·cases h
 ·cases h
theorem zNo{r t:List UInt8}{p:List Nat×List (List UInt8)}(h:rdPl r=some (p,t)):r=plB p++t:=by
 unfold rdPl at h;split at h
 ·rename_i l w c;split at h
  ·rename_i y u b;cases h;rw [zLR c];unfold rdWs at b;split at b
   ·rename_i n z d;split at b
    ·have f:=zBW (B:=λx=>numB x.length++x) (λr x t e=>zFC e) _ _ _ _ b;obtain⟨o,v⟩:=f;rw [(zAu.1 d).2,o];unfold plB;rw [v];simp only [Qp]
    ·cases b
   ·cases b
  ·cases h
 ·cases h
theorem eds_at:∀(b:List (List Nat)) (k v:Nat),((edsOf k b).filter λe=>e.f==v).map (·.t)=if v<k then [] else b.getD (v - k) []
 |[],k,v=>by simp [edsOf]
 |l::b,k,v=>by
  rw [edsOf,QV,QB,eds_at b (k+1) v]
  have d:((l.map λt=>(⟨k,t⟩:EdN)).filter λe=>e.f==v).map (·.t)=if k=v then l else []:=by
   by_cases h:k=v
   ·rw [if_pos h,JH.2 (by intro e c;obtain⟨t,_,rfl⟩:=Qq.1 c;simpa using h),VM];exact List.map_id l
   ·rw [if_neg h,JA.2 (by intro e c;obtain⟨t,_,rfl⟩:=Qq.1 c;simpa using h)];rfl
  rw [d];have o:=VG v k;rcases o with h|h|h
  ·rw [if_neg (by omega),if_pos (by omega),if_pos h];rfl
  ·rw [if_pos h.symm,if_pos (by omega),if_neg (by omega),h,JN];simp
  ·rw [if_neg (by omega),if_neg (by omega),if_neg (by omega),show v - k=(v - (k+1))+1 by omega];simp
theorem zM3{α b:Type}(f:α->List b)(d:α)(l:List α):(List.range l.length).flatMap (λv=>f (l.getD v d))=l.flatMap f:=by
 have:(List.range l.length).map (λv=>l.getD v d)=l:=by
  apply Xg
  ·simp
  ·intro i e c;simp [c]
 conv=>rhs;rw [<-this]
 rw [XJ]
theorem imK_of{ps:List (List Nat×List (List UInt8))}(h:ps.length=n):imK (grOf n ps) n=[119,103]++numB n++ps.flatMap plB:=by
 unfold imK;rw [<-zM3 plB ([],[]) ps,h];congr 1;rw [List.flatMap_def,List.flatMap_def];congr 1;apply Ja;intro v b;have b:=Q0.1 b;have c:ps[v]?.getD ([],[])=ps[v]:=by rw [Qd (by omega)];rfl
 have d:nbL (grOf n ps) 0 v=ps[v].1:=by
  have:=eds_at (ps.map (·.1)) 0 v;unfold nbL;rw [if_neg (by decide)];show ((edsOf 0 (ps.map (·.1))).filter λe=>e.f==v).map (·.t)=_;rw [this,if_neg (by omega),JF,Qk,QK,Qd (by omega)];rfl
 have l:(grOf n ps).ws.getD v []=ps[v].2.map bsOf:=by
  show (ps.map λp=>p.2.map bsOf).getD v []=_;rw [Qk,QK,Qd (by omega)];rfl
 rw [Qk,c];unfold plG plB wdsB;rw [d,l,Qr,XJ];rfl
theorem zDg{α b:Type}{f:α->List b}{l:List α}(h:∀x∈l,(f x).length<=m):(l.flatMap f).length<=l.length*m:=by
 induction l with
 |nil=>simp
 |cons x r c =>
  rw [JV,Qb,QA,Jo];have:=h x (by simp);have:=c λy d=>h y (by simp [d]);omega
section
variable {g:GrD}
theorem zKO(hg:GrIs g)(v:Nat):(rowB (nbL g 0 v)).length<=10005:=by
 have c:=zCP hg 0 v;have d:=zAm (n:=(nbL g 0 v).length) (by omega);have e:=zIG (l:=nbL g 0 v) λx b=>by have:=nb_lt hg.ok b;have:=hg.ok.n2;omega
 unfold rowB;rw [Qb];omega
theorem ws_is(hg:GrIs g){v:Nat}{s:ByteArray}(h:s∈(g.ws.getD v []).take j):s.size<=12:=by
 have h:=Vu h;rw [Qk] at h;have c:=QH v g.ws.length;rcases c with b|b
 ·rw [Qd b] at h;exact((hg.word _ (Qa b)).2 s h).2.2
 ·rw [Jg b] at h;cases h
theorem zK8(hg:GrIs g)(v j:Nat)(c:j<=8):(((g.ws.getD v []).take j).flatMap textB).length<=200:=by
 have h:=zDg (f:=textB) (m:=17) (l:=(g.ws.getD v []).take j) λs b=>by
  have d:=ws_is hg b;have e:s.data.toList.length=s.size:=Vc;have:=zAm (n:=s.size) (by omega);unfold textB;rw [Qb];omega
 have:((g.ws.getD v []).take j).length<=8:=by rw [Qm];omega
 have:=Ji 17 this;omega
theorem ws_len(hg:GrIs g)(v:Nat):(g.ws.getD v []).length<=8:=by
 rw [Qk];have c:=QH v g.ws.length;rcases c with b|b
 ·rw [Qd b];exact(hg.word _ (Qa b)).1
 ·rw [Jg b];simp
theorem zPL(hg:GrIs g)(d:k<=g.n):(imK g k).length<=3000000:=by
 have h:=zDg (f:=plG g) (m:=10300) (l:=List.range k) λv _=>by
  have e:=zKO hg v;have b:=ws_len hg v;have c:=zK8 hg v 8 (by omega);have o:=zAm (n:=(g.ws.getD v []).length) (by omega);rw [Qj b] at c;unfold plG wdsB;rw [Qb,Qb];omega
 rw [Vm] at h;have:=hg.ok.n2;have:=zAm (n:=g.n) (by omega);have p:k*10300<=200*10300:=Ji _ (by omega);unfold imK;rw [Qb,Qb];simp only [QA,QZ];omega
end
def rowK (g:GrD) (v k:Nat):List Nat:=((g.es.take k).filter λe=>e.f==v).map (·.t)
theorem zO2(g:GrD)(v k:Nat)(h:k<=g.es.length):(rowK g v k).length<=k:=by
 have:=Qv (λe=>e.f==v) (g.es.take k);unfold rowK;rw [Qr];rw [Qm] at this;omega
theorem zN9{v:Nat}(h:k<g.es.length):rowK g v (k+1)=if g.es[k].f=v then rowK g v k++[g.es[k].t] else rowK g v k:=by
 unfold rowK;rw [take_add h,QV,QB];by_cases e:g.es[k].f=v
 ·rw [if_pos e];simp [e]
 ·rw [if_neg e];simp [e]
theorem zO1(g:GrD)(v:Nat):rowK g v g.es.length=nbL g 0 v:=by
 unfold rowK nbL;rw [Qg,if_neg (by decide)]
theorem zNY{x:RGr}{vs:List SV}{v:Nat}{w:World}(V:GrV w x g vs):Sp PP 170 #[agg x,.int .i64 (v:Int)] w λr w'=>Own w.heap.size 3 w' r (intsN (nbL g 0 v))/\Stp w w':=by
 have h:=V.es.len;have l:=V.small.1;refine eN ?_;refine rbx λb w1 n1 f=>cnt1 TBok 7 [] 5 6 g.es.length (λk r u=>Own w1.heap.size 3 u r (intsN (rowK g v k))/\Stp w1 u) rfl rfl ⟨Own.nil _ _ _,stp⟩ ?_;rintro k r gf u M ⟨O,e⟩;refine rX f rfl (ite (λhlt=>?_) (λo=>?_))
 ·have d:k<g.es.length:=by omega
  have c:=zN9 (v:=v) d;have p:=zO2 g v k (by omega);refine rX f rfl (rix (V.es.up (w':=u)) (x:=g.es[k]) (by simp) λQ R y=>rload1 (y.cell 0 rfl) (ite (λS=>?_) (λz=>?_)))
  ·rw [if_pos (by omega)] at c;refine rX f rfl (rix (V.es.up (w':=u)) (x:=g.es[k]) (by simp) λT U A=>rload1 (A.cell 1 rfl) (rbs1 (g.es[k].t:Int) rfl rfl (by decide) λW C X _ G=>rapp1 (u:=w1) ⟨rfl,rfl⟩ (O.up (w':=C)) G (by simp [intsN];omega) λH I J Y Z=>?_));have K:Own w1.heap.size 3 I H (intsN (rowK g v (k+1))):=by rw [c,show intsN (rowK g v k++[g.es[k].t])=intsN (rowK g v k)++[(g.es[k].t:Int)] by simp [intsN]];exact J
   exact rA ⟨rfl,d,K,stp⟩
  ·rw [if_neg (by omega)] at c;exact rA ⟨rfl,d,by rw [c];exact O,stp⟩
 ·have L:k=g.es.length:=by omega
  obtain rfl:=L;rw [zO1] at O;exact⟨O.older,stp⟩
theorem zOG(g:GrD)(k:Nat):imK g (k+1)=imK g k++plG g k:=by
 unfold imK;rw [Jm,Jl];simp
theorem zKx{x:RGr}{vs:List SV}{w:World}(V:GrV w x g vs):Sp PP 100 #[agg x] w λv w'=>((GrIs g/\v=.tuple #[txt (imK g g.n),.int .i64 0])\/(¬GrIs g/\v=.tuple #[txt [],.int .i64 20]))/\Stp w w':=by
 have J:=V.n;have U:=V.rows.1;refine eN ?_;refine rbx λb w1 n1 f=>rG f x (rcall (zFv (V.up (w':=w1))) ?_);rintro _ w2 ⟨⟨rfl,c⟩|⟨rfl,c⟩,e2⟩
 case' inr=>exact⟨.inr ⟨c,rfl⟩,stp⟩
 have W:=c.ok.n2;have X:=c.nw;have hb:=zAm (n:=g.n) (by omega);refine rld (B:=f) (v:=.int .i64 (g.n:Int)) (by rw [<-J];rfl) (rcall (zBo (n:=g.n) (by omega)) ?_);rintro _ w3 ⟨rfl,e3⟩;refine rsadd (a:=⟨#[119,103]⟩) (b:=⟨(numB g.n).toArray⟩) (by have:=zAd (numB g.n);show 2+(⟨(numB g.n).toArray⟩:ByteArray).size<=_;omega) ?_
 have A:(⟨#[119,103]⟩:ByteArray)++⟨(numB g.n).toArray⟩=⟨(imK g 0).toArray⟩:=by
  rw [show (⟨#[119,103]⟩:ByteArray)=⟨[119,103].toArray⟩ from rfl,zAB];simp [imK]
 refine cnt1 TBok 8 [] 6 7 g.n (λk r u=>r=txt (imK g k)/\Stp w1 u) rfl rfl ⟨congrArg Value.string A,stp⟩ ?_;rintro k _ gf u hk ⟨rfl,e⟩;refine rld (B:=f) (v:=.int .i64 (g.n:Int)) (by rw [<-J];rfl) (ite (λhlt=>?_) (λY=>?_))
 case' refine_2 =>
  have o:k=g.n:=by omega
  obtain rfl:=o;exact⟨.inl ⟨c,rfl⟩,stp⟩
 have C:k<vs.length:=by omega
 have d:k<g.ws.length:=by omega
 have R:=V.rows.2 k C d;have Z:=R.len;have p:g.ws.getD k []=g.ws[k]:=by rw [Qk,Qd d];rfl
 have h8:=(c.word _ (Qa d)).1;have a0:=zPL c (k:=k) (by omega);have K:=zKO c k;refine rG f x (rcall (zNY (v:=k) (V.up (w':=u))) ?_);rintro _ u1 ⟨L,e1⟩;have o:=L.shape;obtain⟨ra,rc,rfl⟩:=o;refine rcall (zIc L.sl (by have:=zCP c 0 k;omega) (λy hy=>by have:=nb_lt c.ok hy;omega)) ?_;rintro _ u2 ⟨rfl,a1⟩;refine rX f rfl (rix (V.ws.up (w':=u2)) (x:=vs[k]) (by simp) λM O t=>rload1 (t.cell0 rfl) ?_);have a4:=zAm (n:=g.ws[k].length) (by omega);have hq:vs[k].n=g.ws[k].length:=Z;refine rcall ((zBo (n:=vs[k].n) (by omega)).mono λv w' h=>by rw [hq] at h;exact h) ?_;rintro _ u3 ⟨rfl,a5⟩;refine rsadd (by simp only [zAd];omega) ?_;refine rsadd (by rw [zAB];simp only [zAd,Qb];omega) ?_;have E:((⟨(imK g k).toArray⟩:ByteArray)++⟨(rowB (nbL g 0 k)).toArray⟩)++⟨(numB g.ws[k].length).toArray⟩=⟨(imK g k++rowB (nbL g 0 k)++numB g.ws[k].length++(g.ws[k].take 0).flatMap textB).toArray⟩:=by rw [zAB,zAB];simp
 have z:=λj (Q:j<=8)=>zK8 c k j Q;rw [p] at z;refine cnt1 TBok 13 [] 6 12 g.ws[k].length (λj r u'=>r=txt (imK g k++rowB (nbL g 0 k)++numB g.ws[k].length++(g.ws[k].take j).flatMap textB)/\Stp u3 u') rfl rfl ⟨congrArg Value.string E,stp⟩ ?_;rintro j _ a6 G Q ⟨rfl,e4⟩;refine rX f rfl (rix (V.ws.up (w':=G)) (x:=vs[k]) (by simp) λM O t=>rload1 (t.cell0 rfl) (ite (λS=>?_) (λT=>?_)))
 case' refine_2 =>
  have o:j=g.ws[k].length:=by omega
  obtain rfl:=o
  have H:imK g k++rowB (nbL g 0 k)++numB g.ws[k].length++(g.ws[k].take g.ws[k].length).flatMap textB=imK g (k+1):=by
   rw [zOG,Qg];unfold plG wdsB;rw [p];simp only [Qp]
  exact rA ⟨rfl,by omega,congrArg txt H,stp⟩
 have l:j<g.ws[k].length:=by omega
 refine rX f rfl (rix (V.ws.up (w':=G)) (x:=vs[k]) (by simp) λM O t=>rload1 (t.cell0 rfl) (rix (R.up (w':=G)) (x:=g.ws[k][j]) (by simp) λb3 o3 A3=>rload1 (A3.cell0 rfl) ?_));have a7:=((c.word _ (Qa d)).2 _ (Qa l)).2.2;have a8:=zJc (s:=g.ws[k][j]) (by omega);have a9:=z j (by omega);refine rcall (zGq (s:=g.ws[k][j]) (by omega)) ?_;rintro _ u5 ⟨rfl,e5⟩;refine rsadd (by simp only [zAd,Qb];omega) ?_
 have I:(⟨(imK g k++rowB (nbL g 0 k)++numB g.ws[k].length++(g.ws[k].take j).flatMap textB).toArray⟩:ByteArray)++⟨(textB g.ws[k][j]).toArray⟩=⟨(imK g k++rowB (nbL g 0 k)++numB g.ws[k].length++(g.ws[k].take (j+1)).flatMap textB).toArray⟩:=by
  rw [zAB,take_add l,Jl];simp
 exact rA ⟨rfl,l,congrArg Value.string I,stp⟩
def encQ (d:RqD):List UInt8:=if d.kind=4 then [] else if d.kind=3 then numB d.q.frm.toNat++(wdsB d.q.words++(numB d.q.rad.toNat++numB d.q.most.toNat)) else numB d.q.frm.toNat++numB d.q.to.toNat
def encRq (d:RqD):List UInt8:=numB d.id.toNat++(numB d.kind.toNat++encQ d)
theorem bsOf_data(s:ByteArray):bsOf s.data.toList=s:=by
 unfold bsOf;rw [Jz]
theorem zIg{s:ByteArray}(h:s.size<=4000)(t:List UInt8):rdT (textB s++t)=some (s.data.toList,t):=by
 have b:s.data.toList.length=s.size:=Vc;unfold textB rdT;rw [Qp,zA3 (by omega)];simp only;rw [if_pos ⟨h,by rw [Qb];omega⟩,<-b,V6,V0]
theorem zHN:∀(l:List ByteArray) (t:List UInt8),(∀s∈l,s.size<=4000)->rdMany rdT l.length (l.flatMap textB++t)=some (l.map λs=>s.data.toList,t)
 |[],t,_=>by simp [rdMany]
 |s::r,t,h=>by
  rw [JV,Qp,QA];simp only [rdMany];rw [zIg (h s (by simp))];simp only;rw [zHN r t λy b=>h y (by simp [b])];rfl
theorem zOY{l:List ByteArray}(t:List UInt8)(b:l.length<=8)(h:∀s∈l,s.size<=4000):rdWs (wdsB l++t)=some (l.map λs=>s.data.toList,t):=by
 unfold wdsB rdWs;rw [Qp,zA3 (by omega)];simp only;rw [if_pos b,zHN l t h]
theorem zNp{r t:List UInt8}{l:List (List UInt8)}(h:rdWs r=some (l,t)):r=wdsB (l.map bsOf)++t:=by
 unfold rdWs at h;split at h
 ·rename_i n o b;split at h
  ·have c:=zBW (B:=λx=>numB x.length++x) (λr x t e=>zFC e) _ _ _ _ h;obtain⟨d,f⟩:=c;rw [(zAu.1 b).2,d];unfold wdsB;rw [Qr,f,XJ,Qp];rfl
  ·cases h
 ·cases h
theorem zPU{d:RqD}(h:reqOf s=some d):s=encRq d:=by
 have hd:=zC5 h;unfold reqOf at h;split at h
 case h_2=>cases h
 rename_i x e;split at h
 case isFalse=>cases h
 cases h;unfold rdR at e;split at e
 ·cases e
 rename_i id J A;split at e
 ·cases e
 rename_i k K C;split at e
 case isFalse=>cases e
 have t:=(zAu.1 A).2;have v:=(zAu.1 C).2;split at e
 ·rename_i w;cases e;rw [t,v];subst w;simp [encRq,encQ]
 rename_i w;split at e
 ·cases e
 rename_i q L c;cases e;rw [t,v];have f:¬((k:Int)=4):=by omega
 unfold encRq encQ;simp only [QW];rw [if_neg f];congr 2;unfold rdQ at c;split at c
 ·cases c
 rename_i a M E;have z:=(zAu.1 E).2;split at c
 ·rename_i l;split at c
  ·cases c
  rename_i b F o;cases c;rw [if_neg (by omega),z,(zAu.1 o).2];simp
 ·rename_i l;split at c
  ·cases c
  rename_i O F o;split at c
  ·cases c
  rename_i x Q G;split at c
  ·cases c
  rename_i y R H;cases c
  have p:(k:Int)=3:=by
   have I:=hd.1;rcases I with r|⟨_,r,_⟩
   ·exact absurd r f
   ·simp only at r;omega
  rw [if_pos p,z,zNp o,(zAu.1 G).2,(zAu.1 H).2];simp
theorem req_of{d:RqD}(hd:RqIs d):reqOf (encRq d)=some d:=by
 have p:=hd;obtain⟨t,⟨v,w⟩,f⟩:=hd;obtain⟨id,kind,⟨qk,qf,qt,qw,qr,qm⟩⟩:=d;dsimp only at t v w f;have c:∃i:Nat,id=(i:Int):=⟨id.toNat,by omega⟩;obtain⟨i,rfl⟩:=c
 have h:rdR (encRq ⟨(i:Int),kind,⟨qk,qf,qt,qw,qr,qm⟩⟩)=some (⟨(i:Int),kind,⟨qk,qf,qt,qw,qr,qm⟩⟩,[]):=by
  unfold encRq rdR;simp only [QW];rw [zA3 (by omega)];simp only;rcases t with rfl|⟨rfl,z,⟨A,C⟩,r,l⟩
  ·rw [if_pos rfl] at f;rw [show ((4:Int)).toNat=4 from rfl,zA3 (by omega)];simp only;rw [if_pos (by omega),if_pos (by trivial)];unfold encQ;rw [if_pos rfl,f]
  ·dsimp only at z A C r l;have c:∃a:Nat,qf=(a:Int):=⟨qf.toNat,by omega⟩;obtain⟨a,rfl⟩:=c;have c:∃k:Nat,qk=(k:Int):=⟨qk.toNat,by omega⟩;obtain⟨k,rfl⟩:=c;have o:¬((k:Int)=4):=by omega
   rw [if_neg o] at f;unfold encQ;simp only [QW];rw [if_neg o,zA3 (by omega)];simp only;rw [if_pos (by omega),if_neg (by omega)];by_cases e:(k:Int)=3
   ·rw [if_pos e] at f ⊢;have l:=l e;have c:∃x:Nat,qr=(x:Int):=⟨qr.toNat,by omega⟩;obtain⟨x,rfl⟩:=c;have c:∃y:Nat,qm=(y:Int):=⟨qm.toNat,by omega⟩;obtain⟨y,rfl⟩:=c;subst f;unfold rdQ;simp only [QW];rw [zA3 (by omega)];simp only;rw [if_neg (by omega),zOY _ l.1.2 (λs E=>by have:=(l.2.2.2 s E).2.2;omega)];simp only;rw [zA3 (by omega)];simp only;rw [show numB y=numB y++[] by simp,zA3 (by omega)];simp only;rw [VM]
    have F:qw.map (bsOf ∘ λs=>s.data.toList)=qw:=by
     conv=>rhs;rw [<-List.map_id qw]
     apply Ja;intro s _;exact bsOf_data s
    rw [F,e]
   ·rw [if_neg e] at f ⊢;have r:=r (by omega);have c:∃b:Nat,qt=(b:Int):=⟨qt.toNat,by omega⟩;obtain⟨b,rfl⟩:=c;obtain⟨z1,z2,z3⟩:=f;subst z1 z2 z3;unfold rdQ;simp only [QW];rw [zA3 (by omega)];simp only;rw [if_pos (by omega),show numB b=numB b++[] by simp,zA3 (by omega)]
 unfold reqOf;rw [h];simp only;rw [if_pos p]
theorem zIk{d:RqD}:reqOf s=some d↔RqIs d/\s=encRq d:=
 ⟨λh=>⟨zC5 h,zPU h⟩,λ⟨b,c⟩=>by rw [c];exact req_of b⟩
theorem zDC{a b:KeyD}{w:World}:Sp PP 298 #[agg a,agg b] w λv w'=>Tells (lessK a b) v/\Stp w w':=by
 refine eN ?_;refine rbx λx w1 n1 c=>rbx λy w2 n2 d=>rX c rfl (rX d rfl ?_);refine ite (λl=>⟨.t (.inl l),stp⟩) (λl=>?_);refine rX c rfl (rX d rfl ?_);refine ite (λe=>?_) (λe=>⟨.f λh=>by unfold lessK at h;omega,stp⟩);refine rX c rfl (rX d rfl ?_);refine ite (λo=>⟨.t (.inr ⟨e,.inl o⟩),stp⟩) (λo=>?_);refine rX c rfl (rX d rfl ?_);refine ite (λp=>?_) (λp=>⟨.f λh=>by unfold lessK at h;omega,stp⟩);refine rX c rfl (rX d rfl ?_);refine ite (λr=>⟨.t (.inr ⟨e,.inr ⟨p,r⟩⟩),stp⟩) (λr=>⟨.f λh=>by unfold lessK at h;omega,stp⟩)
theorem zHG{k:KeyD}{w:World}(m:mayK k):Sp PP 232 #[agg k] w λv w'=>v=.bool true/\Stp w w':=by
 refine eN ?_;refine rbx λb w1 n1 o=>rld rfl ?_;refine ite (λc=>?_) (λc=>absurd m.1 c);refine rld rfl ?_;refine ite (λd=>?_) (λd=>absurd m.2.1 d);refine rld rfl ?_;refine ite (λh=>?pos) (λh=>?neg)
 case' neg =>
  refine rld rfl ?_;refine ite (λl=>?one) (λl=>absurd m.2.2.1 (by omega))
 all_goals
  refine rld rfl ?_;refine ite (λe=>?_) (λe=>absurd m.2.2.2.1 e);refine rld rfl ?_;exact ite (λf=>⟨rfl,stp⟩) (λf=>absurd m.2.2.2.2 f)
theorem zHH{x:StD}{w:World}(h:mayX x):Sp PP 137 #[agg x] w λv w'=>v=.bool true/\Stp w w':=by
 refine eN ?_;refine rbx λb w1 n1 c=>rG c x.key (rcall (zHG h.1) ?_);rintro _ w2 ⟨rfl,e⟩;refine rX c rfl (iT h.2.1 (rX c rfl ?_));exact ite (λ_=>⟨rfl,stp⟩) (λd=>absurd h.2.2 d)
theorem zNi{x:StD}{w:World}(h:mayX x):Sp PP 299 #[agg x] w λv w'=>v=.bool true/\Stp w w':=by
 refine eN ?_;refine rbx λb w1 n1 c=>rG c x.key (rcall (zHG h.1) ?_);rintro _ w2 ⟨rfl,e⟩;refine rX c rfl (iT h.2.1 (rX c rfl ?_));exact ite (λ_=>⟨rfl,stp⟩) (λd=>absurd h.2.2 d)
theorem zKB{c:Nat}{l:List StD}{w:World}(h:SlF w (.slice a n c) l)(r:l.length<=1000000)(d:∀x∈l,mayX x):Sp PP 213 #[.slice a n c] w λv w'=>v=.bool true/\Stp w w':=by
 have f:=h.len;obtain rfl:=f;refine eN ?_;refine cnt TBok 4 [2] 3 l.length (λk u=>Stp w u) rfl rfl stp ?_;rintro k g u t e;refine ite (λhlt=>?_) (λo=>⟨rfl,e⟩);have b:k<l.length:=by omega
 refine rix (h.up (w':=u)) (x:=l[k]) (by simp) λy z p=>rloadA p rfl (rcall (zNi (d _ (Qa b))) ?_);rintro _ A ⟨rfl,C⟩;exact rA ⟨rfl,b,stp⟩
theorem zMx(x:StD):∀(L:List StD) (i:Nat) (hi:i<L.length),(∀j,j<i->(e:j<L.length)->lessK L[j].key x.key)->¬lessK L[i].key x.key->L[i].key=x.key->putC x L=L.take i++⟨x.key,min x.d L[i].d⟩::L.drop (i+1)
 |[],i,hi,_,_,_=>absurd hi (by simp)
 |y::r,0,_,_,b,c=>by unfold putC;rw [if_neg (show ¬lessK y.key x.key from b),if_pos (show y.key=x.key from c)];simp
 |y::r,i+1,hi,h,b,c=>by
  unfold putC;rw [if_pos (show lessK y.key x.key from h 0 (by omega) (by simp)),zMx x r i (by simpa using hi) (λj e f=>h (j+1) (by omega) (by simpa using f)) b c];simp
theorem zMy(x:StD):∀(L:List StD) (i:Nat),i<=L.length->(∀j,j<i->(d:j<L.length)->lessK L[j].key x.key)->(∀hi:i<L.length,¬lessK L[i].key x.key/\L[i].key≠x.key)->putC x L=L.take i++x::L.drop i
 |[],i,hi,_,_=>by simp at hi;subst hi;simp [putC]
 |y::r,0,_,_,b=>by
  have:=b (by simp);unfold putC;rw [if_neg (show ¬lessK y.key x.key from this.1),if_neg (show ¬y.key=x.key from this.2)];simp
 |y::r,i+1,hi,h,b=>by
  unfold putC;rw [if_pos (show lessK y.key x.key from h 0 (by omega) (by simp)),zMy x r i (by simpa using hi) (λj d c=>h (j+1) (by omega) (by simpa using c)) (λc=>b (by simpa using c))];simp
theorem zMV(l:List StD)(x:StD):combL (l++[x])=putC x (combL l):=by unfold combL;rw [VF];rfl
theorem zNj{c:Nat}{l:List StD}{x:StD}{w:World}(h:SlF w (.slice a n c) l)(hn:l.length<=1000000):Sp PP 364 #[.slice a n c,agg x] w λv w'=>Own w.heap.size 211 w' v (putC x l)/\Stp w w':=by
 have q_:=h.len;obtain rfl:=q_;refine eN ?_;refine rbx λbx w1 n1 t=>?_;have a0:=n1.b;have a1:=n1.s;refine cntJ TBok 0 7 [] 5 l.length (λj u'=>(∀i,i<j->(W:i<l.length)->lessK l[i].key x.key)/\Stp w1 u') (λj u'=>j<=l.length/\(∀i,i<j->(W:i<l.length)->lessK l[i].key x.key)/\(∀W:j<l.length,¬lessK l[j].key x.key)/\Stp w1 u') rfl rfl ⟨by omega,stp⟩ ?_ ?_
 ·rintro j g u' p ⟨r,e'⟩;refine dQ 14 λu1 e1=>ite (λh1=>?_) (λh1=>⟨j,rfl,p,r,λh=>absurd h (by omega),stp⟩);have f:j<l.length:=by omega
  refine tix (h.up (w':=u1)) (x:=l[j]) (by simp) λX Y y _=>tloadA (cs:=enc l[j].key) (y.sub 0 3) rfl nf (tG t x.key nf (rcall (zDC (a:=l[j].key) (b:=x.key)) ?_));rintro _ H ⟨⟨rfl,I⟩|⟨rfl,I⟩,J⟩
  ·exact⟨J.e,rA ⟨rfl,f,below2 r λ_=>I,stp⟩⟩
  ·exact⟨J.e,⟨j,rfl,p,r,λ_=>I,stp⟩⟩
 rintro j g u ⟨p,r,z,e⟩;refine rsl none (some j) (h.up (w':=u)) (by simp) (by simpa using p) λZ c1 S1=>?_;refine rapp (u:=u) ⟨rfl,rfl⟩ (Own.nil _ 211 _) S1 (by simp;omega) λv3 w3 A f3 s3=>?_;rw [zCR] at A;have A:Own u.heap.size 211 w3 v3 (l.take j):=by simpa using A
 have hu:=lz w1 u;have a4:=lz u w3;refine dQ 14 λH J=>ite (λh3=>?pos2) (λh3=>?neg2)
 case' pos2 =>
  have f:j<l.length:=by omega
  refine tix (h.up (w':=H)) (x:=l[j]) (by simp) λX Y y _=>tloadA (cs:=enc l[j].key) (y.sub 0 3) rfl nf (tG t x.key nf (tgeq KeyD l[j].key x.key (λK=>?same) (λK=>?new)))
  case same =>
   have o:=zMx x l j f r (z f) K;have O4:=A.up (w':=H);refine dD (ownD u.heap.size v3) (upF 15 0) λu4 L=>tG t x.key (λhd=>by have:=hd.1;omega) (tX t rfl (λhd=>by have:=hd.1;omega) ?_)
   refine tix (h.up (w':=u4)) (x:=l[j]) (by simp) λX Y y h5=>tload1 (y.cell 3 rfl) (λhd=>by
    obtain⟨b',h6,h7⟩:=h.lt (by intro h0;rw [h0] at f;simp at f);rw [h5] at h6;cases h6;have:=hd.1;have:=lz w w1;omega) ?_
   refine tmin ?_;refine tbuild (cs:=enc (⟨x.key,min x.d l[j].d⟩:StD)) rfl (rbs1 (⟨x.key,min x.d l[j].d⟩:StD) rfl rfl (by decide) λb4 M L _ O=>⟨Fr.fr L.e,?_⟩);refine rapp1 (u:=u) ⟨rfl,rfl⟩ (O4.up (w':=M)) O (by simp;omega) λv5 Q R f5 s5=>⟨f5,?_⟩;refine rA (rsl (some (j+1)) none (h.up (w':=Q)) (by simp;omega) (by simp) λZ c1 S=>?_);refine rapp (u:=u) ⟨rfl,rfl⟩ R S (by simp;omega) λT U C f7 s7=>?_
   have V:Own u.heap.size 211 U T (putC x l):=by
    rw [o];rw [zBx] at C;simpa using C
   exact⟨V.older,stp⟩
  have G:∀hi:j<l.length,¬lessK l[j].key x.key/\l[j].key≠x.key:=λhi=>⟨z hi,K⟩
 case' neg2 =>
  have G:∀hi:j<l.length,¬lessK l[j].key x.key/\l[j].key≠x.key:=λhi=>absurd hi (by omega)
 all_goals
  have o:=zMy x l j p r G;refine rG t x (rbs1 x rfl rfl (by decide) λb4 M L _ O=>rapp1 (u:=u) ⟨rfl,rfl⟩ (A.up (w':=M)) O (by simp;omega) λv5 Q R f5 s5=>rsl (some j) none (h.up (w':=Q)) (by simpa using p) (by simp) λZ c1 S=>?_);refine rapp (u:=u) ⟨rfl,rfl⟩ R S (by simp;omega) λT U C f7 s7=>?_
  have V:Own u.heap.size 211 U T (putC x l):=by
   rw [o];rw [zBx] at C;simpa using C
  exact⟨V.older,stp⟩
theorem zId{c:Nat}{l:List StD}{w:World}(h:SlF w (.slice a n c) l)(y:l.length<=1000000):Sp PP 300 #[.slice a n c] w λv w'=>Own w.heap.size 211 w' v (combL l)/\Stp w w':=by
 have b:=h.len;obtain rfl:=b;refine eN ?_;refine cnt1 TBok 5 [] 3 4 l.length (λk v u=>Own w.heap.size 211 u v (combL (l.take k))/\Stp w u) rfl rfl ⟨Own.nil _ _ _,stp⟩ ?_;rintro k v g u z ⟨O,e⟩;refine ite (λhlt=>?_) (λp=>?_)
 ·have d:k<l.length:=by omega
  have f:=zCi (l.take k);rw [Qm] at f;refine rix (h.up (w':=u)) (x:=l[k]) (by simp) λA C r=>rloadA r rfl ?_;have b:=O.shape;obtain⟨oa,oc,rfl⟩:=b;refine rcall (zNj (x:=l[k]) O.sl (by omega)) ?_;rintro _ G ⟨t,H⟩;refine rA ⟨rfl,d,?_,stp⟩;have o:=t.mono (lz w u);rw [<-zMV,<-take_add d] at o;exact o
 ·have b:k=l.length:=by omega
  obtain rfl:=b;rw [Qg] at O;exact⟨O,e⟩
theorem zKE{c:Nat}{l:List StD}{k:KeyD}{w:World}(h:SlF w (.slice a n c) l)(H:l.length<=1000000):Sp PP 301 #[.slice a n c,agg k] w λv w'=>v=.bool (keyIn l k)/\Stp w w':=by
 have f:=h.len;obtain rfl:=f;refine eN ?_;refine rbx λbx w1 n1 z=>cnt TBok 6 [4] 5 l.length (λj u=>(∀y∈l.take j,y.key≠k)/\Stp w1 u) rfl rfl ⟨by simp,stp⟩ ?_;rintro j g u I ⟨o,e⟩;refine ite (λhlt=>?_) (λA=>?_)
 ·have d:j<l.length:=by omega
  refine dQ 7 λC J=>tix (h.up (w':=C)) (x:=l[j]) (by simp) λK L E _=>tloadA (cs:=enc l[j].key) (E.sub 0 3) rfl nf (tG z k nf (tgeq KeyD l[j].key k (λp=>?_) (λp=>?_)))
  ·have r:keyIn l k=true:=zBR.2 ⟨_,Qa d,p⟩;exact⟨by rw [r];rfl,stp⟩
  ·refine rA ⟨rfl,d,λy b=>?_,stp⟩;rw [take_add d] at b;have f:=Qf.1 b;rcases f with b|b
   ·exact o y b
   ·rw [Qc.1 b];exact p
 ·have f:j=l.length:=by omega
  obtain rfl:=f;rw [Qg] at o
  have r:keyIn l k=false:=by
   cases G:keyIn l k with
   |false=>rfl
   |true=>obtain⟨y,b,t⟩:=zBR.1 G;exact absurd t (o y b)
  exact⟨by rw [r];rfl,stp⟩
theorem zM4(S M:List StD):(freshL S M).length<=M.length:=Qw (Qv _ _) (zCi M)
theorem zFy{c c2:Nat}{S M:List StD}{w:World}(h:SlF w (.slice a n c) S)(y:SlF w (.slice a2 n2 c2) M)(z:S.length<=1000000)(A:M.length<=1000000):
  Sp PP 215 #[.slice a n c,.slice a2 n2 c2] w λv w'=>Own w.heap.size 211 w' v (freshL S M)/\Stp w w':=by
 have d:=h.len;obtain rfl:=d;refine eN ?_;refine rcall (zId y A) ?_;rintro _ w1 ⟨f,T⟩;have d:=f.shape;obtain⟨ca,cc,rfl⟩:=d;have C:=zCi M;refine cnt1 TBok 8 [] 6 7 (combL M).length (λk v u=>Own w1.heap.size 211 u v (((combL M).take k).filter λx=>!keyIn S x.key)/\Stp w1 u) rfl rfl ⟨Own.nil _ _ _,stp⟩ ?_;rintro k v g u U ⟨O,e⟩;refine ite (λhlt=>?_) (λG=>?_)
 ·have b:k<(combL M).length:=by omega
  have l:=Qv (λx:StD=>!keyIn S x.key) ((combL M).take k);rw [Qm] at l;refine rix (f.sl.up (w':=u)) (x:=(combL M)[k]) (by simp) λH I o=>rloadA (cs:=enc (combL M)[k].key) (o.sub 0 3) rfl (rcall (zKE (k:=(combL M)[k].key) (h.up (w':=u)) z) ?_);rintro _ p ⟨rfl,V⟩;cases t:keyIn S (combL M)[k].key
  ·refine rix (f.sl.up (w':=p)) (x:=(combL M)[k]) (by simp) λH I o=>rloadA o rfl (rbs1 (combL M)[k] rfl rfl (by decide) λW J X _ K=>rapp1 (u:=w1) ⟨rfl,rfl⟩ (O.up (w':=J)) K (by omega) λL Q R Y Z=>?_);have r:Own w1.heap.size 211 Q L (((combL M).take (k+1)).filter λx=>!keyIn S x.key):=by rw [take_add b,QV];simpa [t] using R
   exact rA ⟨rfl,b,r,stp⟩
  ·have r:Own w1.heap.size 211 p v (((combL M).take (k+1)).filter λx=>!keyIn S x.key):=by rw [take_add b,QV];simpa [t] using O.up (w':=p)
   exact rA ⟨rfl,b,r,stp⟩
 ·have d:k=(combL M).length:=by omega
  obtain rfl:=d;rw [Qg] at O;exact⟨O.mono (lz w w1),stp⟩
theorem zL9{l:List EdN}{v:Nat}(b:j<(atV l v).length):(atV l v)[j]∈l/\(atV l v)[j].f=v:=by
 have:=QC.1 (Qa b);exact⟨this.1,by simpa using this.2⟩
theorem zMK(l:List EdN)(v:Nat):toL (atV l v)=intsN (rowN l v):=by unfold toL intsN rowN;rw [VM];rfl
theorem cLt_n{l:List EdN}(b:RowI n l):cLt l n=l.length:=zFS λe c=>(b.lt e c).1
theorem zGt{l:List EdN}{M O:Nat}{oa:Option Addr}{oc:Nat}{ta:Option Addr}{tc:Nat}{w:World}(c:RowI n l)(d:SlF w (.slice oa M oc) (offL n l))(z:SlF w (.slice ta O tc) (toL l)):
  Sp PP 295 #[.slice oa M oc,.slice ta O tc] w λv w'=>v=.bool true/\Stp w w':=by
 have Q:=d.len;have R:=z.len;have q1:=zAp n l;have q2:=zAw l;have h1:=c.n1;have h2:=c.n2;have hl:=c.len;have hn:=cLt_n c;rw [q1] at Q;rw [q2] at R;subst Q R;refine eN ?_;refine iF (by omega) (iF (by omega) (rix (i:=0) d (zAk (v:=0) (by omega)) λG H f=>rload1 (f.cell0 rfl) (iF (by rw [zB2];decide) (rarE (y:=((n:Nat):Int)) (by omega) (by omega) (rix d (zAk (v:=n) (by omega)) λG H f=>rload1 (f.cell0 rfl) (iF (by omega) (iF (by omega) (loop1 TBok 6 [4] 5 (λv u=>∃k:Nat,v=.int .i64 ((k:Int)+1)/\k<=n/\Stp w u) (λv _=>n+1 - (Go.RowKit.intOf v).toNat) rfl ⟨0,rfl,by omega,stp⟩ ?_))))))));rintro _ g u ⟨k,rfl,U,e⟩;refine ite (λhlt=>?_) (λI=>?_)
 ·refine dQ 10 λp V=>tix (i:=k+1) (d.up (w':=p)) (zAk (v:=k+1) (by omega)) λr x b _=>tload1 (b.cell0 rfl) nf (rarE (y:=((k:Nat):Int)) (by omega) (by omega) (tix (d.up (w':=p)) (zAk (v:=k) (by omega)) λr x b _=>tload1 (b.cell0 rfl) nf ?_));have W:=zBi l k;refine iF (by omega) (rA ⟨⟨k+1,rfl,by omega,stp⟩,?_⟩);show n+1 - (((k:Int)+1+1)).toNat<n+1 - (((k:Int)+1)).toNat;omega
 refine loop1 TBok 7 [4] 6 (λv u'=>∃k:Nat,v=.int .i64 ((k:Int)+1)/\k<=n/\Stp u u') (λv _=>n+1 - (Go.RowKit.intOf v).toNat) rfl ⟨0,rfl,by omega,stp⟩ ?_;rintro _ g u' ⟨k,rfl,U,e'⟩;refine ite (λhlt=>?_) (λI=>⟨rfl,stp⟩);refine rarE (y:=((k:Nat):Int)) (by omega) (by omega) (rix (d.up (w':=u')) (zAk (v:=k) (by omega)) λG H f=>rload1 (f.cell0 rfl) ?_);have W:=zBi l k;have hs:=zCW l k;have X:=cLt_le l (k+1);have Y:=zHY l k;refine loop1 TBok 8 [4] 7 (λv p=>∃j:Nat,v=.int .i64 ((cLt l k+j:Nat):Int)/\cLt l k+j<=cLt l (k+1)/\Stp u' p) (λv _=>cLt l (k+1) - (Go.RowKit.intOf v).toNat) rfl ⟨0,rfl,by omega,stp⟩ ?_;rintro _ g p ⟨j,rfl,hj,V⟩;refine rix (i:=k+1) (d.up (w':=p)) (zAk (v:=k+1) (by omega)) λG H f=>rload1 (f.cell0 rfl) (ite (λZ=>?_) (λhgj=>?_))
 ·have o:j<(atV l k).length:=by omega
  have J:=at_get c.ris o;have K:=zL9 o;have S:=c.lt _ K.1;have hgt:(toL l)[cLt l k+j]? = some ((atV l k)[j].t:Int):=by unfold toL;rw [QK,J.1];rfl
  refine dQ 36 λA e3=>tix (z.up (w':=A)) hgt λr x b _=>tload1 (b.cell0 rfl) nf (iF (by omega) (tix (z.up (w':=A)) hgt λr x b _=>tload1 (b.cell0 rfl) nf (rarE (y:=((n:Nat):Int)) (by omega) (by omega) (iF (by omega) (rarE (y:=((k:Nat):Int)) (by omega) (by omega) (tix (d.up (w':=A)) (zAk (v:=k) (by omega)) λr x b _=>tload1 (b.cell0 rfl) nf (ite (λa0=>?_) (λT=>?_))))))))
  ·have q_:∃i,j=i+1:=⟨j - 1,by omega⟩;obtain⟨i,rfl⟩:=q_;have L:=at_get c.ris (show i<(atV l k).length by omega);have C:(toL l)[cLt l k+i]? = some ((atV l k)[i].t:Int):=by unfold toL;rw [QK,L.1];rfl
   have E:=zG6 c.ris k;unfold rowN at E;rw [QY] at E;have E:=QX.1 E i (i+1) (by omega) o (by omega);refine tix (z.up (w':=A)) hgt λr x b _=>tload1 (b.cell0 rfl) nf (rarE (y:=((cLt l k+i:Nat):Int)) (by omega) (by omega) (tix (z.up (w':=A)) C λr x b _=>tload1 (b.cell0 rfl) nf (iF (by omega) (rarE (y:=((cLt l k+(i+1+1):Nat):Int)) (by omega) (by omega) ⟨⟨i+1+1,rfl,by omega,stp⟩,?_⟩))));show cLt l (k+1) - (((cLt l k+(i+1+1):Nat):Int)).toNat<cLt l (k+1) - (((cLt l k+(i+1):Nat):Int)).toNat;omega
  ·refine rarE (y:=((cLt l k+(j+1):Nat):Int)) (by omega) (by omega) ⟨⟨j+1,rfl,by omega,stp⟩,?_⟩;show cLt l (k+1) - (((cLt l k+(j+1):Nat):Int)).toNat<cLt l (k+1) - (((cLt l k+j:Nat):Int)).toNat;omega
 ·refine rA ⟨⟨k+1,rfl,by omega,stp⟩,?_⟩;show n+1 - (((k:Int)+1+1)).toNat<n+1 - (((k:Int)+1)).toNat;omega
theorem zCM{l:List EdN}{o p v:Nat}{oa:Option Addr}{oc:Nat}{ta:Option Addr}{tc:Nat}{w:World}(d:RowI n l)(h:SlF w (.slice oa o oc) (offL n l))(r:SlF w (.slice ta p tc) (toL l))(K:v<n):
  Sp PP 296 #[.slice oa o oc,.slice ta p tc,.int .i64 (v:Int)] w λz w'=>Own w.heap.size 3 w' z (toL (atV l v))/\Stp w w':=by
 have L:=h.len;have M:=r.len;have q1:=zAp n l;have q2:=zAw l;have O:=d.n2;refine eN ?_;refine dQ 13 λc Q=>?_;have t:=zBi l v;have A:=cLt_le l (v+1);refine tix (h.up (w':=c)) (zAk (v:=v) (by omega)) λR S C _=>tload1 (C.cell0 rfl) nf (rarE (y:=((v+1:Nat):Int)) (by omega) (by omega) (tix (h.up (w':=c)) (zAk (v:=v+1) (by omega)) λT U G _=>tload1 (G.cell0 rfl) nf ?_));have x:=r.up (w':=c);refine tslD (cLt l v) (cLt l (v+1)) x t (by omega) ?_;have b:=x.part (cLt l v) (cLt l (v+1)) t (by omega);rw [zF1 d.ris v] at b;refine rcall (zHE b (by rw [zAw];have:=Qv (λH=>decide (H.f=v)) l;have:=d.len;unfold atV;omega)) ?_;rintro V W ⟨I,J⟩;exact⟨J.e,⟨I.mono (lz w c),stp⟩⟩
theorem zNZ{c:Nat}{l:List Int}{x:Int}{w:World}(h:SlF w (.slice a n c) l)(E:l.length<=1000000):Sp PP 297 #[.slice a n c,.int .i64 x] w λv w'=>Tells (x∈l) v/\Stp w w':=by
 have d:=h.len;obtain rfl:=d;refine eN ?_;refine cnt TBok 6 [4] 5 l.length (λk w'=>(∀j,j<k->¬l[j]? = some x)/\Stp w w') rfl rfl ⟨by omega,stp⟩ ?_;rintro k g w' G ⟨p,e⟩;refine ite (λhlt=>?_) (λr=>?_)
 ·have b:k<l.length:=by omega
  refine rix h.up (x:=l[k]) (by simp) λH I y=>rload1 (y.cell0 rfl) (ite (λz=>?_) (λo=>?_))
  ·exact⟨.t (by rw [<-z];exact Qa b),stp⟩
  ·exact rA ⟨rfl,b,below p (by simpa [b] using o),stp⟩
 ·have d:k=l.length:=by omega
  obtain rfl:=d;refine⟨.f λA=>?_,stp⟩;have d:=QI.1 A;obtain⟨j,C,rfl⟩:=d;exact p j C (by simp)
theorem zBY{x:RRow}{r:List EdN}{w:World}(c:GrIs g)(R:RwF w x g r):Sp PP 211 #[agg x] w λv w'=>v=.bool true/\Stp w w':=by
 have y:=c.rowI;have I:=c.rowR R.rev';have l1:=R.off.len;have l2:=R.to.len;have l3:=R.rof.len;have l4:=R.rev.len;have q1:=zAp g.n g.es;have q2:=zAw g.es;have q3:=zAp g.n r;have q4:=zAw r;have z:=R.rev'.1.length_eq;have O:=c.ok.n2;rw [Qr] at z;refine eN ?_;refine rbx λbx w1 n1 b=>rX b rfl (rX b rfl ?_);refine iF (by omega) (rX b rfl (rX b rfl ?_));refine rcall (zGt y (R.off.up (w':=w1)) (R.to.up (w':=w1))) ?_;rintro _ w2 ⟨rfl,e2⟩;refine rX b rfl (rX b rfl ?_);refine rcall (zGt I (R.rof.up (w':=w2)) (R.rev.up (w':=w2))) ?_;rintro _ w3 ⟨rfl,e3⟩;refine rX b rfl (rX b rfl ?_);refine iF (by omega) (cnt TBok 4 [2] 3 g.n (λk u=>Stp w1 u) rfl rfl stp ?_);rintro k gf u hk e;refine rA (rX b rfl (ite (λhlt=>?_) (λQ=>⟨rfl,stp⟩)));have d:k<g.n:=by omega
 refine rX b rfl (rX b rfl ?_);refine rcall (zCM y (R.off.up (w':=u)) (R.to.up (w':=u)) d) ?_;rintro _ S ⟨J,e1⟩;have A:=J.shape;obtain⟨la,lc,rfl⟩:=A;have T:=zAw (atV g.es k);have U:(atV g.es k).length<=2000:=by have:=Qv (λC=>decide (C.f=k)) g.es;have:=c.ne;unfold atV;omega
 refine cnt TBok 6 [2] 5 (toL (atV g.es k)).length (λj K=>Stp S K) rfl rfl stp ?_;rintro j V K hj W;refine ite (λX=>?_) (λhgj=>?_)
 ·have l:j<(atV g.es k).length:=by omega
  have E:=zL9 l;have o:=y.lt _ E.1;have p:=zMH R.rev' E.1;rw [E.2] at p;refine dD (λ_=>False) [0,1,2,3,4,5,6,7,9,8,10,11] λG Y=>tX b rfl nf (tX b rfl nf ?_);refine tix (J.sl.up (w':=G)) (i:=j) (x:=((atV g.es k)[j].t:Int)) (by simp [toL,l]) λb4 o4 Z _=>tload1 (Z.cell0 rfl) nf (rcall (zCM (v:=(atV g.es k)[j].t) I (R.rof.up (w':=G)) (R.rev.up (w':=G)) o.2) ?_);rintro _ u4 ⟨L,e4⟩;refine⟨e4.e,?_⟩;have A:=L.shape;obtain⟨ma,mc,rfl⟩:=A;have H:(toL (atV r (atV g.es k)[j].t)).length<=1000000:=by rw [zAw];have:=Qv (λC=>decide (C.f=(atV g.es k)[j].t)) r;have:=c.ne;unfold atV at *;omega
  refine rcall (zNZ (x:=(k:Int)) L.sl H) ?_;rintro _ u5 ⟨⟨rfl,M⟩|⟨rfl,M⟩,e5⟩
  case' inr=>exact absurd p M
  refine⟨e5.e,?_⟩;exact rA ⟨rfl,by omega,stp⟩
 ·exact rA ⟨rfl,d,stp⟩
theorem zHF{x:RRow}{r:List EdN}{v:Nat}{w:World}(c:GrIs g)(R:RwF w x g r)(e:v<g.n):
  Sp PP 302 #[agg x,.int .i64 (v:Int)] w λf w'=>(∃d,f=.tuple #[d,.bool true]/\Own w.heap.size 3 w' d (intsN (nbL g 0 v)))/\Stp w w':=by
 have l:=R.off.len;have q1:=zAp g.n g.es;refine eN ?_;refine rbx λbx w1 n1 b=>rG b x (rcall (zBY c (R.up (w':=w1))) ?_);rintro _ w2 ⟨rfl,o⟩;refine iF (by omega) (rX b rfl (rarE (y:=((g.n:Nat):Int)) (by omega) (by have:=c.ok.n2;omega) (iF (by omega) (rX b rfl (rX b rfl ?_)))));refine rcall (zCM c.rowI (R.off.up (w':=w2)) (R.to.up (w':=w2)) e) ?_;rintro _ p ⟨O,t⟩;rw [zMK,<-zKP] at O;exact⟨⟨_,rfl,O.mono (lz w w2)⟩,stp⟩
theorem zI0{x:RRow}{r:List EdN}{v:Nat}{w:World}(b:GrIs g)(R:RwF w x g r)(e:v<g.n):
  Sp PP 303 #[agg x,.int .i64 (v:Int)] w λf w'=>(∃d,f=.tuple #[d,.bool true]/\Own w.heap.size 3 w' d (intsN (nbL g 1 v)))/\Stp w w':=by
 have l:=R.off.len;have q1:=zAp g.n g.es;refine eN ?_;refine rbx λbx w1 n1 c=>rG c x (rcall (zBY b (R.up (w':=w1))) ?_);rintro _ w2 ⟨rfl,o⟩;refine iF (by omega) (rX c rfl (rarE (y:=((g.n:Nat):Int)) (by omega) (by have:=b.ok.n2;omega) (iF (by omega) (rX c rfl (rX c rfl ?_)))));refine rcall (zCM (b.rowR R.rev') (R.rof.up (w':=w2)) (R.rev.up (w':=w2)) e) ?_;rintro _ p ⟨O,t⟩;rw [zMK,<-zMC b.er R.rev'] at O;exact⟨⟨_,rfl,O.mono (lz w w2)⟩,stp⟩
theorem rixQ{α:Type}[Enc α]{k:Value->World->Prop}{pn:List PanicEntry->World->Prop}{w:World}{t e:TypeId}{z:Value}{sz b:Nat}[p:SlT P t e][r:Elem P e z sz b]{q:Value}(f:q=.int .i64 (i:Int))(d:Enc.sz α=sz){c:Nat}{l:List α}{x:α}(h:Own B e w (.slice a n c) l)(hi:l[i]? = some x)
  (o:∀g,Value.blk (.slice a n c)=some g->B<=g->At w g (i*sz) (enc x)->k (.pointer (some ⟨g,i*sz,none⟩)) w):SemV P (Instr.indexAt t (.slice a n c) q) k pn w:=by
 subst f;exact rixO d h hi o
theorem zLy{v:Int}{W:Nat}{w:World}(b:0<=v/\v<=1000000)(c:1<=W/\W<=16):Sp PP 138 #[.int .i64 v,.int .i64 (W:Int)] w λr w'=>r=.tuple #[.int .i64 (homW W v),.bool true]/\w'=w:=by
 refine eN ?_;refine ite (λh=>absurd h (by omega)) (λd=>?_);refine ite (λh=>absurd h (by omega)) (λe=>?_);refine ite (λh=>absurd h (by omega)) (λf=>?_);refine ite (λh=>absurd h (by omega)) (λl=>?_);refine rA (rA (rrem (by omega) (by omega) (rrem (Vs _ (by decide)) (by omega) ?_)));exact⟨rfl,rfl⟩
theorem zKD{c:Nat}{l:List StD}{w:World}(h:SlF w (.slice a n c) l)(L:l.length<=1000000)(C:SRis l)(E:∀x∈l,mayX x):Sp PP 212 #[.slice a n c] w λv w'=>v=.bool true/\Stp w w':=by
 have o:=h.len;obtain rfl:=o;refine eN ?_;refine cnt TBok 4 [2] 3 l.length (λk u=>Stp w u) rfl rfl stp ?_;rintro k g u M e;refine ite (λhlt=>?_) (λG=>⟨rfl,e⟩);have d:k<l.length:=by omega
 refine dQ 25 λH O=>tix (h.up (w':=H)) (x:=l[k]) (by simp) λr t f _=>tloadA f rfl nf (rcall (zHH (E _ (Qa d))) ?_);rintro _ z ⟨rfl,I⟩;refine⟨I.e,?_⟩;refine ite (λJ=>?_) (λJ=>?_)
 ·have o:∃j,k=j+1:=⟨k - 1,by omega⟩;obtain⟨j,rfl⟩:=o;have p:j<l.length:=by omega
  refine rarE (y:=(j:Int)) (by omega) (by omega) (tix (i:=j) (h.up (w':=z)) (x:=l[j]) (by simp) λr t f _=>tloadA (cs:=enc l[j].key) (f.sub 0 3) rfl nf (tix (i:=j+1) (h.up (w':=z)) (x:=l[j+1]) (by simp) λr t f _=>tloadA (cs:=enc l[j+1].key) (f.sub 0 3) rfl nf (rcall (zDC (a:=l[j].key) (b:=l[j+1].key)) ?_)));rintro _ Q ⟨⟨rfl,A⟩|⟨rfl,A⟩,K⟩
  case' inr=>exact absurd (QX.1 C j (j+1) p d (by omega)) A
  exact⟨K.e,rA ⟨rfl,d,stp⟩⟩
 ·exact rA ⟨rfl,d,stp⟩
theorem zJq{c c2:Nat}{S M:List StD}{w:World}(h:SlF w (.slice a n c) S)(o:SlF w (.slice a2 n2 c2) M)(C:S.length<=1000000)(E:M.length<=1000000)(p:∀x∈S,x.key.v<N)(r:∀x∈M,x.key.v<N):
  Sp PP 214 #[.slice a n c,.slice a2 n2 c2,.int .i64 (N:Int)] w λv w'=>v=.bool true/\Stp w w':=by
 have d:=h.len;obtain rfl:=d;have d:=o.len;obtain rfl:=d;refine eN ?_;refine cnt TBok 8 [6] 7 S.length (λk u=>Stp w u) rfl rfl stp ?_;rintro k g u t e;refine ite (λhlt=>?_) (λf=>?_)
 ·have b:k<S.length:=by omega
  refine rix (h.up (w':=u)) (x:=S[k]) (by simp) λy z l=>rload1 (l.cell 2 rfl) (ite (λA=>absurd (p _ (Qa b)) (by omega)) (λ_=>?_));exact rA ⟨rfl,b,stp⟩
 refine cnt TBok 9 [6] 8 M.length (λk u'=>Stp u u') rfl rfl stp ?_;rintro k g u' t G;refine ite (λhlt=>?_) (λf=>⟨rfl,stp⟩);have b:k<M.length:=by omega
 refine rix (o.up (w':=u')) (x:=M[k]) (by simp) λy z l=>rload1 (l.cell 2 rfl) (ite (λA=>absurd (r _ (Qa b)) (by omega)) (λ_=>?_));exact rA ⟨rfl,b,stp⟩
def cntL (W:Nat) (S:List StD):List Int:=(List.range W).map λp:Nat=>(((S.filter λx=>decide (homW W x.key.v=p)).length:Nat):Int)
theorem zJN(W:Nat)(S:List StD):(cntL W S).length=W:=by simp [cntL]
theorem zNA{W p:Nat}{S:List StD}{x:StD}(c:homW W x.key.v=p)(b:p<W):∃m:Nat,(cntL W S)[p]? = some (m:Int)/\m<=S.length/\cntL W (S++[x])=(cntL W S).set p ((m:Int)+1):=by
 refine⟨_,zAS b,Qv _ _,?_⟩;unfold cntL;rw [zCr b];apply Ja;intro j _;rw [QV,Qb];by_cases e:j=p
 ·rw [if_pos e,e];simp [c]
 ·rw [if_neg e];have:¬(homW W x.key.v=j):=λh=>e (by omega);simp [this]
theorem zLG{c W:Nat}{S:List StD}{w:World}(h:SlF w (.slice a n c) S)(hn:S.length<=1000000)(H:1<=W/\W<=16)(R:∀x∈S,mayX x):
  Sp PP 73 #[.slice a n c,.int .i64 (W:Int)] w λv w'=>(∃I,v=.tuple #[I,.int .i64 0]/\Own w.heap.size 3 w' I (cntL W S))/\Stp w w':=by
 have b:=h.len;obtain rfl:=b;refine eN ?_;refine ite (λh=>absurd h (by omega)) (λT=>?_);refine ite (λh=>absurd h (by omega)) (λU=>?_);refine rmk (0:Int) rfl rfl (by omega) λV w1 J s1 X=>?_
 have Y:List.replicate W (0:Int)=cntL W []:=by
  apply Xg
  ·simp [cntL]
  ·intro i T U;simp [cntL]
 rw [Y] at J;refine cnt TBok 8 [4,5] 7 S.length (λk u=>Own w.heap.size 3 u (.slice (some ⟨V,0,none⟩) W W) (cntL W (S.take k))/\Stp w u) rfl rfl ⟨J,stp⟩ ?_;rintro k g u hk ⟨O,e⟩;refine ite (λhlt=>?_) (λZ=>?_)
 ·have d:k<S.length:=by omega
  have f:=R _ (Qa d);have o:=f.1;unfold mayK at o;refine rix (h.up (w':=u)) (x:=S[k]) (by simp) λb1 o1 r=>rloadA r rfl (rcall (zHH f) ?_);rintro _ t ⟨rfl,e1⟩;refine rix (h.up (w':=t)) (x:=S[k]) (by simp) λb1 o1 r=>rload1 (r.cell 2 rfl) (rcall (zLy (v:=S[k].key.v) (by omega) H) ?_);rintro _ t ⟨rfl,rfl⟩;have b:=zH5 H.1 S[k].key.v;obtain⟨p,K,y⟩:=b;have b:=zNA (S:=S.take k) K y;obtain⟨m,l,z,C⟩:=b;rw [Qm] at z;have a0:=zJN W (S.take k);have G:=O.up (w':=t);have L:Value.int IntKind.i64 (homW W S[k].key.v)=.int .i64 (p:Int):=by rw [K]
  refine rixQ L rfl G l λg' M _ A=>rload1 (A.cell0 rfl) ?_;refine rA (rixQ L rfl G l λg' M _ A=>?_);refine rstO rfl ((m:Int)+1) G M (by omega) rfl λu2 Q f3 s3 _=>?_;rw [<-C,<-take_add d] at Q;exact rA ⟨rfl,d,Q,stp⟩
 ·have b:k=S.length:=by omega
  obtain rfl:=b;rw [Qg] at O;exact⟨⟨_,rfl,O⟩,e⟩
theorem zNk{c:Nat}{l:List StD}{x:StD}{w:World}(h:SlF w (.slice a n c) l)(Y:l.length<=1000000):Sp PP 217 #[.slice a n c,agg x] w λv w'=>Own w.heap.size 222 w' v (insS x l)/\Stp w w':=by
 have G:=h.len;obtain rfl:=G;refine eN ?_;refine rbx λbx w1 n1 y=>cntJ TBok 0 7 [] 5 l.length (λj u'=>(∀i,i<j->(z:i<l.length)->lessK l[i].key x.key)/\Stp w1 u') (λj u'=>j<=l.length/\(∀i,i<j->(z:i<l.length)->lessK l[i].key x.key)/\(∀z:j<l.length,¬lessK l[j].key x.key)/\Stp w1 u') rfl rfl ⟨by omega,stp⟩ ?_ ?_
 ·rintro j g u' d ⟨f,Z⟩;refine dQ 14 λH e1=>ite (λI=>?_) (λI=>⟨j,rfl,d,f,λh=>absurd h (by omega),stp⟩);have p:j<l.length:=by omega
  refine tix (h.up (w':=H)) (x:=l[j]) (by simp) λb1 o1 J _=>tloadA (cs:=enc l[j].key) (J.sub 0 3) rfl nf (tG y x.key nf (rcall (zDC (a:=l[j].key) (b:=x.key)) ?_));rintro _ u2 ⟨⟨rfl,r⟩|⟨rfl,r⟩,A⟩
  ·exact⟨A.e,rA ⟨rfl,p,below2 f λ_=>r,stp⟩⟩
  ·exact⟨A.e,⟨j,rfl,d,f,λ_=>r,stp⟩⟩
 rintro j g u ⟨d,f,t,e⟩;refine rsl none (some j) (h.up (w':=u)) (by simp) (by simpa using d) λK c1 L=>?_;refine rapp (u:=u) ⟨rfl,rfl⟩ (Own.nil _ 222 _) L (by simp;omega) λM O o f3 s3=>?_;rw [zCR] at o;have o:Own u.heap.size 222 O M (l.take j):=by simpa using o
 refine rG y x (rbs1 x rfl rfl (by decide) λb4 Q e4 _ R=>rapp1 (u:=u) ⟨rfl,rfl⟩ (o.up (w':=Q)) R (by simp;omega) λv5 S T f5 s5=>rsl (some j) none (h.up (w':=S)) (by simpa using d) (by simp) λK c1 U=>?_);refine rapp (u:=u) ⟨rfl,rfl⟩ T U (by simp;omega) λV W C f7 s7=>?_
 have X:Own u.heap.size 222 W V (insS x l):=by
  rw [zMp x l j d f t];rw [zBx] at C;simpa using C
 exact⟨X.older,stp⟩
theorem zKC{xq:RQ}{slot:Int}{w:World}(z:xq.kind=q.kind/\xq.frm=q.frm/\xq.to=q.to)(o:QyOk q g.n):
  Sp PP 59 #[agg xq,.int .i64 slot] w λv w'=>Own w.heap.size 211 w' v (mls g q slot 0)/\Stp w w':=by
 obtain⟨A,d,p⟩:=z;have b:=o.frm;have r:=o.kind;have f:src q 0=[q.frm.toNat]:=rfl;refine eN ?_;refine rbx λJ w1 n1 l=>rX l rfl (iF (by omega) (rX l rfl (iF (by omega) (rX l rfl (rbuild (cs:=enc (⟨slot,0,xq.frm⟩:KeyD)) rfl (rbuild (cs:=enc (⟨⟨slot,0,xq.frm⟩,0⟩:StD)) rfl (rbs [(⟨⟨slot,0,xq.frm⟩,0⟩:StD)] rfl (vs:=[_]) rfl rfl (by decide) λC w2 n2 K=>?_)))))));have L:Stp w1 w2:=⟨n2.ext⟩;have t:Own w1.heap.size 211 w2 (.slice (some ⟨C,0,none⟩) 1 1) [(⟨⟨slot,0,xq.frm⟩,0⟩:StD)]:=n2.own (by simp) rfl (by omega) (Qe _);refine rX l rfl (ite (λG=>?_) (λG=>?_))
 ·have x:=o.to (by omega);have c:src q 1=[q.to.toNat]:=by unfold src;rw [if_neg (by decide),if_pos (by omega)]
  refine rX l rfl (rbuild (cs:=enc (⟨slot,1,xq.to⟩:KeyD)) rfl (rbuild (cs:=enc (⟨⟨slot,1,xq.to⟩,0⟩:StD)) rfl (rbs1 (⟨⟨slot,1,xq.to⟩,0⟩:StD) rfl rfl (by decide) λM H O _ I=>rapp1 (u:=w1) ⟨rfl,rfl⟩ (t.up (w':=H)) I (by simp only [QA,QZ];omega) λQ R y S T=>?_)))
  have e:[(⟨⟨slot,0,xq.frm⟩,0⟩:StD)]++[⟨⟨slot,1,xq.to⟩,0⟩]=mls g q slot 0:=by
   rw [zEp,f,c,d,p];simp only [QS,JP];rw [Jh b.1,Jh x.1]
  rw [e] at y;exact⟨y.older,stp⟩
 ·have c:src q 1=[]:=by unfold src;rw [if_neg (by decide),if_neg (by omega)]
  have e:[(⟨⟨slot,0,xq.frm⟩,0⟩:StD)]=mls g q slot 0:=by
   rw [zEp,f,c,d];simp only [QS,JP,QE];rw [Jh b.1]
  rw [e] at t;exact⟨t.older,stp⟩
theorem zLC{H:RRow}{r:List EdN}{xq:RQ}{x:StD}{w:World}(G:GrIs g)(R:RwF w H g r)(hk:xq.kind=q.kind/\xq.rad=q.rad)(hm:mayX x)(hv:x.key.v<g.n):
  Sp PP 216 #[agg xq,agg H,agg x] w λv w'=>(∃v',v=.tuple #[v',.int .i64 0]/\Own w.heap.size 211 w' v' (nextL g q x))/\Stp w w':=by
 obtain⟨a8,a9⟩:=hk;obtain⟨⟨slot,dir,v⟩,d⟩:=x;have b0:=G.ok.n2;obtain⟨⟨m1,m2,m3,m4,m5⟩,m6,m7⟩:=hm;dsimp only at m1 m2 m3 m4 m5 m6 m7 hv;have l:∃p:Nat,v=(p:Int):=⟨v.toNat,by omega⟩;obtain⟨p,rfl⟩:=l;have hp:p<g.n:=by omega
 have l1:=R.off.len;have q1:=zAp g.n g.es;refine eN ?_;refine rbx λb1 w1 n1 B1=>rbx λb2 w2 n2 U=>rbx λb3 w3 n3 V=>rG U H (rcall (zBY G (R.up (w':=w3))) ?_);rintro _ w4 ⟨rfl,e4⟩;refine rG V (⟨slot,dir,p⟩:KeyD) (ral λb5 w5 n5 z5=>rE z5 (⟨slot,dir,p⟩:KeyD) λW c f6=>?_);have c:Bk W b5 (enc (⟨slot,dir,p⟩:KeyD)) 209:=c;have s6:Stp w4 W:=n5.st f6;refine rld (B:=c) (v:=.int .i64 dir) rfl (iF (by omega) (rld (B:=c) (v:=.int .i64 dir) rfl (iF (by omega) (rld (B:=c) (v:=.int .i64 (p:Int)) rfl (iF (by omega) (rld (B:=c) (v:=.int .i64 (p:Int)) rfl (rX U rfl ?_)))))));refine rarE (y:=((g.n:Nat):Int)) (by omega) (by omega) (iF (by omega) (rld (B:=V) (v:=.int .i64 d) rfl (iF (by omega) (rld (B:=V) (v:=.int .i64 d) rfl (iF (by omega) (rX B1 rfl (ite (λh3=>?_) (λh3=>?_))))))))
 ·refine rld (B:=V) (v:=.int .i64 d) rfl (rX B1 rfl ?_);refine ite (λh4=>?_) (λh4=>?_)
  ·have X:nextL g q ⟨⟨slot,dir,p⟩,d⟩=[]:=by
    unfold nextL;exact if_pos (show q.kind=3/\q.rad<=d by omega)
   rw [X];exact⟨⟨_,rfl,Own.nil _ _ _⟩,stp⟩
  ·refine rG U H (rld (B:=c) (v:=.int .i64 (p:Int)) rfl (rcall (zHF (v:=p) G (R.up (w':=W)) hp) ?_));rintro _ C ⟨⟨v7,rfl,O7⟩,e7⟩;refine rld (B:=c) (v:=.int .i64 dir) rfl ?_
   have X:nextL g q ⟨⟨slot,dir,p⟩,d⟩=(nbL g dir p).map λv:Nat=>(⟨⟨slot,dir,v⟩,d+1⟩:StD):=by
    unfold nextL;rw [if_neg (show ¬(q.kind=3/\q.rad<=d) by omega)];rfl
   refine ite (λhd=>?_) (λhd=>?_)
   case' refine_1 =>
    refine rG U H (rld (B:=c) (v:=.int .i64 (p:Int)) rfl (rcall (zI0 (v:=p) G (R.up (w':=C)) hp) ?_));rintro _ b ⟨⟨v8,rfl,o⟩,Y⟩;have t:nbL g 1 p=nbL g dir p:=by rw [hd]
   case' refine_2 =>
    have o:=O7;have Y:Stp C C:=stp;have l:∃b,b=C:=⟨_,rfl⟩;obtain⟨b,z⟩:=l;rw [<-z] at o Y;subst z;have t:nbL g 0 p=nbL g dir p:=by rw [show dir=0 by omega]
   all_goals
    rw [t] at o;have f:(intsN (nbL g dir p)).length=(nbL g dir p).length:=by simp [intsN]
    have a0:=zCP G dir p;have l:=o.shape;obtain⟨la,lc,rfl⟩:=l;have a1:=c.lt;have a4:=n3.lt;have z8:=lz W b;have z3:=lz w3 b;refine cnt1 TBok 15 [] 13 14 (intsN (nbL g dir p)).length (λk v u=>Own b.heap.size 211 u v (((nbL g dir p).take k).map λv:Nat=>(⟨⟨slot,dir,v⟩,d+1⟩:StD))/\Stp b u) rfl rfl ⟨Own.nil _ _ _,stp⟩ ?_;rintro k v g9 u hk ⟨O,e⟩;refine ite (λhlt=>?_) (λa5=>?_)
    ·have A:k<(nbL g dir p).length:=by omega
     refine dD (λi=>b.heap.size<=i) (upF 17 0) λu1 e1=>tld (B:=c) (v:=.int .i64 slot) rfl (by omega) (tld (B:=c) (v:=.int .i64 dir) rfl (by omega) ?_)
     refine tix (o.sl.up (w':=u1)) (i:=k) (x:=((nbL g dir p)[k]:Int)) (by simp [intsN,A]) λb9 o9 A9 h9=>tload1 (A9.cell0 rfl) (λhd=>by
      obtain⟨b',Z,_,h7⟩:=o.lt (by intro h0;rw [h0] at f;simp at f;omega);rw [h9] at Z;cases Z;omega) ?_
     refine tbuild (cs:=enc (⟨slot,dir,(nbL g dir p)[k]⟩:KeyD)) rfl (tld (B:=V) (v:=.int .i64 d) rfl (by omega) (rA (tbuild (cs:=enc (⟨⟨slot,dir,(nbL g dir p)[k]⟩,d+1⟩:StD)) rfl (rbs1 (⟨⟨slot,dir,(nbL g dir p)[k]⟩,d+1⟩:StD) rfl rfl (by decide) λa6 I J _ K=>⟨Fr.fr J.e,?_⟩))));refine rapp1 (u:=b) ⟨rfl,rfl⟩ (O.up (w':=I)) K (by simp;omega) λL M Q S a7=>⟨S.mono λi _ hi=>hi.1,?_⟩;have T:Own b.heap.size 211 M L (((nbL g dir p).take (k+1)).map λv:Nat=>(⟨⟨slot,dir,v⟩,d+1⟩:StD)):=by rw [take_add A,QB];exact Q
     exact rA ⟨rfl,by omega,T,stp⟩
    ·have l:k=(intsN (nbL g dir p)).length:=by omega
     obtain rfl:=l;rw [f,Qg,<-X] at O;exact⟨⟨_,rfl,O.mono (lz w b)⟩,stp⟩
 ·refine rG U H (rld (B:=c) (v:=.int .i64 (p:Int)) rfl (rcall (zHF (v:=p) G (R.up (w':=W)) hp) ?_));rintro _ C ⟨⟨v7,rfl,O7⟩,e7⟩;refine rld (B:=c) (v:=.int .i64 dir) rfl ?_
  have X:nextL g q ⟨⟨slot,dir,p⟩,d⟩=(nbL g dir p).map λv:Nat=>(⟨⟨slot,dir,v⟩,d+1⟩:StD):=by
   unfold nextL;rw [if_neg (show ¬(q.kind=3/\q.rad<=d) by omega)];rfl
  refine ite (λhd=>?_) (λhd=>?_)
  case' refine_1 =>
   refine rG U H (rld (B:=c) (v:=.int .i64 (p:Int)) rfl (rcall (zI0 (v:=p) G (R.up (w':=C)) hp) ?_));rintro _ b ⟨⟨v8,rfl,o⟩,Y⟩;have t:nbL g 1 p=nbL g dir p:=by rw [hd]
  case' refine_2 =>
   have o:=O7;have Y:Stp C C:=stp;have l:∃b,b=C:=⟨_,rfl⟩;obtain⟨b,z⟩:=l;rw [<-z] at o Y;subst z;have t:nbL g 0 p=nbL g dir p:=by rw [show dir=0 by omega]
  all_goals
   rw [t] at o;have f:(intsN (nbL g dir p)).length=(nbL g dir p).length:=by simp [intsN]
   have a0:=zCP G dir p;have l:=o.shape;obtain⟨la,lc,rfl⟩:=l;have a1:=c.lt;have a4:=n3.lt;have z8:=lz W b;have z3:=lz w3 b;refine cnt1 TBok 15 [] 13 14 (intsN (nbL g dir p)).length (λk v u=>Own b.heap.size 211 u v (((nbL g dir p).take k).map λv:Nat=>(⟨⟨slot,dir,v⟩,d+1⟩:StD))/\Stp b u) rfl rfl ⟨Own.nil _ _ _,stp⟩ ?_;rintro k v g9 u hk ⟨O,e⟩;refine ite (λhlt=>?_) (λa5=>?_)
   ·have A:k<(nbL g dir p).length:=by omega
    refine dD (λi=>b.heap.size<=i) (upF 17 0) λu1 e1=>tld (B:=c) (v:=.int .i64 slot) rfl (by omega) (tld (B:=c) (v:=.int .i64 dir) rfl (by omega) ?_)
    refine tix (o.sl.up (w':=u1)) (i:=k) (x:=((nbL g dir p)[k]:Int)) (by simp [intsN,A]) λb9 o9 A9 h9=>tload1 (A9.cell0 rfl) (λhd=>by
     obtain⟨b',Z,_,h7⟩:=o.lt (by intro h0;rw [h0] at f;simp at f;omega);rw [h9] at Z;cases Z;omega) ?_
    refine tbuild (cs:=enc (⟨slot,dir,(nbL g dir p)[k]⟩:KeyD)) rfl (tld (B:=V) (v:=.int .i64 d) rfl (by omega) (rA (tbuild (cs:=enc (⟨⟨slot,dir,(nbL g dir p)[k]⟩,d+1⟩:StD)) rfl (rbs1 (⟨⟨slot,dir,(nbL g dir p)[k]⟩,d+1⟩:StD) rfl rfl (by decide) λa6 I J _ K=>⟨Fr.fr J.e,?_⟩))));refine rapp1 (u:=b) ⟨rfl,rfl⟩ (O.up (w':=I)) K (by simp;omega) λL M Q S a7=>⟨S.mono λi _ hi=>hi.1,?_⟩;have T:Own b.heap.size 211 M L (((nbL g dir p).take (k+1)).map λv:Nat=>(⟨⟨slot,dir,v⟩,d+1⟩:StD)):=by rw [take_add A,QB];exact Q
    exact rA ⟨rfl,by omega,T,stp⟩
   ·have l:k=(intsN (nbL g dir p)).length:=by omega
    obtain rfl:=l;rw [f,Qg,<-X] at O;exact⟨⟨_,rfl,O.mono (lz w b)⟩,stp⟩
theorem Own.bk{α:Type}[Enc α]{e:TypeId}{w:World}{c g:Nat}{l:List α}(O:Own B e w (.slice a n c) l)(d:l≠[])(f:Value.blk (.slice a n c)=some g):∃cs,Bk w g cs e:=by
 have o:=O.blk d;obtain⟨p,b,rfl,_,_,h,_⟩:=o;cases f;exact⟨b.toList,⟨by simpa using h⟩⟩
theorem Bk.ne{w:World}{b f:Nat}{cs c:List Value}{e l:TypeId}(k:Bk w b cs e)(o:Bk w f c l)(d:e≠l):b≠f:=by
 rintro rfl;have h:=k.h;rw [o.h] at h;cases h;exact d rfl
abbrev PlV (s:List UInt8) (A:Nat) (w:World) (v:Value) (w':World):Prop:=
 ((∃p A' v1 v2,RdsV rdPl s A p A'/\v=.tuple #[v1,v2,.int .i64 ((A':Nat):Int),.bool true]/\Own w.heap.size 3 w' v1 (intsN p.1)/\Own w.heap.size 9 w' v2 (p.2.map bsOf)) \/
  (rdPl (s.drop A)=none/\v=.tuple #[.slice none 0 0,.slice none 0 0,.int .i64 0,.bool false]))/\Stp w w'
theorem zN3{r t:List UInt8}(h:rdN r=some (n,t))(b:n<=8):rdWs r=rdMany rdT n t:=by rw [rdWs_n h,if_pos b]
theorem zKy{A:Nat}{w:World}(r:s.length<=4611686018427387904):Sp PP 99 #[txt s,.int .i64 (A:Int)] w (PlV s A w):=by
 refine eN ?_;refine rcall (zFt r) ?_;rintro v w1 ⟨⟨l,I,x,t,rfl,K⟩|⟨f,rfl⟩,Z⟩
 case' inr =>
  refine rcall (zAs (A:=0) r) ?_;rintro v w2 ⟨⟨n,z,c,rfl⟩|⟨d,rfl⟩,L⟩
  all_goals exact⟨.inr ⟨zKI f,rfl⟩,stp⟩
 refine rcall (zAs (A:=I) r) ?_;rintro v w2 ⟨⟨n,z,c,rfl⟩|⟨d,rfl⟩,L⟩
 case' inr=>exact⟨.inr ⟨zBp t.2 (zIh d),rfl⟩,stp⟩
 refine ite (λM=>⟨.inr ⟨zBp t.2 (by rw [rdWs_n c.2,if_neg (by omega)]),rfl⟩,stp⟩) (λM=>?_);have J:=zN3 c.2 (by omega)
 refine cnt2 TBok 16 [4,5,6,7] 12 14 15 n (λk x Q u=>∃b o,b.length=k/\o<=s.length/\x=.int .i64 ((o:Nat):Int)/\Own w2.heap.size 9 u Q (b.map bsOf)/\preR b (rdMany rdT (n - k) (s.drop o))=rdMany rdT n (s.drop z)/\Stp w2 u) rfl rfl
  ⟨[],z,rfl,c.1,rfl,Own.nil _ _ _,by rw [zBL,JF],stp⟩ ?_
 rintro k _ v g u hk ⟨b,o,R,C,rfl,O,G,e⟩;refine ite (λh=>?_) (λh=>?_)
 ·refine rcall (zDs (A:=o) r) ?_;rintro _ u1 ⟨⟨y,S,p,rfl⟩|⟨f,rfl⟩,e3⟩
  case' inr =>
   refine⟨.inr ⟨zBp t.2 ?_,rfl⟩,stp⟩;rw [J,<-G,show n - k=(n - (k+1))+1 by omega,zA4 f];rfl
  refine rbs1 (bsOf y) rfl rfl (by decide) λb4 T e4 _ U=>rapp1 (u:=w2) ⟨rfl,rfl⟩ (O.up (w':=T)) U (by simp;omega) λV W X f5 s5=>?_;have H:Own w2.heap.size 9 W V ((b++[y]).map bsOf):=by rw [QB];exact X
  refine rA ⟨rfl,by omega,b++[y],S,by simp [R],p.1,rfl,H,?_,stp⟩;rw [<-G,show n - k=(n - (k+1))+1 by omega,zAD p.2]
 ·have Y:k=n:=by omega
  obtain rfl:=Y;have hd:rdWs (s.drop I)=some (b,s.drop o):=by rw [J,<-G,JN];simp [rdMany,preR]
  refine⟨.inl ⟨(l,b),o,x,v,⟨C,zDR t.2 hd⟩,rfl,K.up,O.older⟩,stp⟩
structure PbJ (w:World) (bz bg N:Nat) (u:World) (es:List EdN) (ea:Option Addr) (ec:Nat) (wa:Option Addr) (wc:Nat) (vs:List SV) (ws:List (List ByteArray)):Prop where
 z:Bk u bz (enc zGr) 77
 g:Bk u bg [.int .i64 (N:Int),.slice ea es.length ec,.slice wa vs.length wc] 77
 es:Own w.heap.size 159 u (.slice ea es.length ec) es
 wo:Own w.heap.size 38 u (.slice wa vs.length wc) vs
 rows:RowsO w.heap.size u vs ws
 st:Stp w u
theorem PbJ.up{w:World}{b c:Nat}{d:List EdN}{f:Option Addr}{h:Nat}{l:Option Addr}{o:Nat}{vs:List SV}{p:List (List ByteArray)}[Le u u'][Stp u u'](J:PbJ w b c N u d f h l o vs p):PbJ w b c N u' d f h l o vs p:=
 ⟨J.z.mv,J.g.mv,J.es.up,J.wo.up,J.rows.up,⟨J.st.e.t (lE u u')⟩⟩
structure PbrI (w:World) (s:List UInt8) (bz bg N A1 k:Nat) (u:World) (ps:List (List Nat×List (List UInt8))) (A:Nat) (ea:Option Addr) (ec:Nat) (wa:Option Addr) (wc:Nat) (vs:List SV):Prop extends PbJ w bz bg N u (edsOf 0 (rowsOf ps)) ea ec wa wc vs (wdsOf ps) where
 len:ps.length=k
 at':A<=s.length
 pre:preR ps (rdMany rdPl (N - k) (s.drop A))=rdMany rdPl N (s.drop A1)
 sm:∀p∈ps,PlSm p
open Classical in
theorem zKw {s:List UInt8} {w:World} (hs:s.length<=1000000):Sp PP 47 #[txt s] w (ImgT s w):=by
 have hz:=zAd s;refine eN ?_;refine ral λo w1 n1 z1=>?_;have e8:=n1.b;have e9:=n1.s;have Z1:Bk w1 o (enc zGr) 77:=z1;have C:∀i,i=o->w.heap.size<=i:=by omega
 refine ite (λh2=>?_) (λh2=>?_)
 ·have c:rdI s=none:=zIf λ⟨t,ht⟩=>by rw [<-ht] at hz h2;simp at hz h2;omega
  have X:=Z1;refine rbuild (cs:=enc zGr) rfl (rE X zGr λG d R=>?_);have d:Bk G o (enc zGr) 77:=d;refine rresG (B:=d) rfl ?_;exact⟨.inr ⟨img_no c,rfl⟩,⟨Fr.st Le.e R C⟩⟩
 refine rsslN (hi:=2) rfl (by omega) ?_;refine rsne (λa0=>?_) (λa1=>?_)
 ·have c:rdI s=none:=zIf λ⟨t,ht⟩=>a0 (by subst ht;exact(zA7 _ 0 2).trans rfl);have X:=Z1;refine rbuild (cs:=enc zGr) rfl (rE X zGr λG d R=>?_);have d:Bk G o (enc zGr) 77:=d;refine rresG (B:=d) rfl ?_;exact⟨.inr ⟨img_no c,rfl⟩,⟨Fr.st Le.e R C⟩⟩
 obtain⟨t,rfl⟩:∃t,s=119::103::t:=by
  have h3:=congrArg (λx:ByteArray=>x.data.toList) ((zA7 s 0 2).symm.trans a1);have h4:s.take 2=[119,103]:=by simpa using h3
  refine⟨s.drop 2,?_⟩
  conv=>lhs;rw [<-JW 2 s,h4]
  rfl
 have hI:=rdI_eq (s:=119::103::t) (r:=t) rfl;refine rcall (zAs (A:=2) (by omega)) ?_;rintro _ w2 ⟨⟨N,A1,hr,rfl⟩|⟨c,rfl⟩,e2⟩
 case' inr =>
  have c:rdI (119::103::t)=none:=by rw [hI,show rdN t=none from c]
  have X:=Z1.mv (w:=w2);refine rbuild (cs:=enc zGr) rfl (rE X zGr λG d R=>?_);have d:Bk G o (enc zGr) 77:=d;refine rresG (B:=d) rfl ?_;exact⟨.inr ⟨img_no c,rfl⟩,⟨Fr.st Le.e R C⟩⟩
 have a4:rdN t=some (N,(119::103::t).drop A1):=hr.2;rw [a4] at hI;refine ite (λb7=>?_) (λb7=>?_)
 ·have c:rdI (119::103::t)=none:=hI.trans (if_neg (by omega));have X:=Z1.mv (w:=w2);refine rbuild (cs:=enc zGr) rfl (rE X zGr λG d R=>?_);have d:Bk G o (enc zGr) 77:=d;refine rresG (B:=d) rfl ?_;exact⟨.inr ⟨img_no c,rfl⟩,⟨Fr.st Le.e R C⟩⟩
 have Y:rdI (119::103::t)=match rdMany rdPl N ((119::103::t).drop A1) with|some (ps,u)=>some (N,ps,u)|none=>none:=hI.trans (if_pos (by omega))
 clear hI
 have b8:(119::103::t)=[119,103]++numB N++(119::103::t).drop A1:=by
  have:=(zAu.1 a4).2
  conv=>lhs;rw [this]
  simp
 have f0:=hs;have f:∃s,s=119::103::t:=⟨_,rfl⟩;obtain⟨s,d1⟩:=f;rw [<-d1] at hs hz hr a4 Y b8 ⊢;refine rbuild (cs:=[.int .i64 (N:Int),.slice none 0 0,.slice none 0 0]) rfl (ral λZ w3 n3 z3=>?_);have f1:=n3.b;have f2:=n3.s;have f3:=lz w1 w2;have a5:∀i,i=Z->w.heap.size<=i:=by omega
 have f5:¬Z=o:=by omega
 have a8:¬o=Z:=by omega
 refine rS z3 [.int .i64 (N:Int),.slice none 0 0,.slice none 0 0] (by intro u hu;simp at hu;rcases hu with rfl|rfl <;> rfl) λw4 G4 f4=>?_;have G4:Bk w4 Z [.int .i64 (N:Int),.slice none 0 0,.slice none 0 0] 77:=G4;have Z4:=(Z1.mv (w:=w3)).fr f4 a8;have s4:Stp w w4:=⟨Fr.st (lE w w3) f4 a5⟩
 refine cnt1 TBok 9 [3] 5 8 N (λk va u=>∃ps A U W wa wc vs,PbrI w s o Z N A1 k u ps A U W wa wc vs/\va=.int .i64 ((A:Nat):Int)) rfl rfl
  ⟨[],A1,none,0,none,0,[],⟨⟨Z4,G4,Own.nil _ _ _,Own.nil _ _ _,⟨rfl,λi h=>absurd h (by simp)⟩,s4⟩,rfl,hr.1,by rw [zBL,JF],by simp⟩,rfl⟩ ?_
 rintro k _ gf u hk ⟨ps,A,U,W,wa,wc,vs,J,rfl⟩;have d2:=J.rows.1;rw [Qr,J.len] at d2;have Js:=J.st;refine ite (λhlt=>?_) (λf6=>?_)
 case' refine_2 =>
  have f:k=N:=by omega
  obtain rfl:=f;have hd:rdMany rdPl k (s.drop A1)=some (ps,s.drop A):=by rw [<-J.pre,JN];simp [rdMany,preR]
  rw [hd] at Y;have b9:=zCj (rowsOf ps) 0 (by intro l hl;obtain⟨p,I,rfl⟩:=Qq.1 hl;exact(J.sm p I).1);rw [Qr,J.len] at b9
  have V:GrV u ⟨k,⟨U,(edsOf 0 (rowsOf ps)).length,W⟩,⟨wa,vs.length,wc⟩⟩ (grOf k ps) vs:=⟨rfl,J.es.sl,J.wo.sl,J.rows.v,⟨by show (edsOf 0 (rowsOf ps)).length<=1000000;omega,by omega,λl hl=>by obtain⟨p,I,rfl⟩:=Qq.1 hl;have:=(J.sm p I).2.1;simp;omega⟩,λl hl x hx=>by
   have f:=Qq.1 hl;obtain⟨p,I,rfl⟩:=f;have f:=Qq.1 hx;obtain⟨y,hy,rfl⟩:=f;have:=(J.sm p I).2.2 y hy;have h2:=zAd y;show (⟨y.toArray⟩:ByteArray).size<=_;omega⟩
  have f:=zBW (B:=plB) (λr x t e=>zNo e) _ _ _ _ hd;obtain⟨d3,_⟩:=f;have S:s=imK (grOf k ps) k++s.drop A:=by rw [imK_of J.len,Qp,<-d3];exact b8
  have a9:imgOf s=if s.drop A=[]/\GrIs (grOf k ps) then some (grOf k ps) else none:=by unfold imgOf;rw [Y]
  have JG:=J.g;refine rG JG (⟨k,⟨U,(edsOf 0 (rowsOf ps)).length,W⟩,⟨wa,vs.length,wc⟩⟩:RGr) (rcall (zKx V) ?_);rintro _ L ⟨⟨hg,rfl⟩|⟨hg,rfl⟩,e1⟩
  all_goals
   have Z5:=J.z.mv (w:=L)
  case' inr =>
   refine iT (by decide) ?_;have c:imgOf s=none:=by rw [a9,if_neg λh=>hg h.2]
  case' inl =>
   refine iF (· rfl) (rsne (λa0=>?_) (λa1=>?_))
   case' refine_2 =>
    have hA:s.drop A=[]:=by
     have h3:imK (grOf k ps) k=s:=by
      have h3:=congrArg (λx:ByteArray=>x.data.toList) a1;simp at h3;exact h3
     have h4:=congrArg List.length S;rw [h3,Qb] at h4;exact Qn (by omega)
    have G5:=JG.mv (w:=L);refine rG G5 (⟨k,⟨U,(edsOf 0 (rowsOf ps)).length,W⟩,⟨wa,vs.length,wc⟩⟩:RGr) (rE Z5 (⟨k,⟨U,(edsOf 0 (rowsOf ps)).length,W⟩,⟨wa,vs.length,wc⟩⟩:RGr) λu2 Z6 M=>?_);have Z6:Bk u2 o (enc (⟨k,⟨U,(edsOf 0 (rowsOf ps)).length,W⟩,⟨wa,vs.length,wc⟩⟩:RGr)) 77:=Z6;refine rresG (B:=Z6) rfl ?_;exact⟨.inl ⟨grOf k ps,_,vs,by rw [a9,if_pos ⟨hA,hg⟩],rfl,⟨rfl,((J.es.up (w':=L)).frc M Z5 (by decide)).sl,((J.wo.up (w':=L)).frc M Z5 (by decide)).sl,((J.rows.up (w':=L)).frc M Z5 (by decide)).v,V.small,V.words⟩⟩,⟨Fr.st (lE w L) M C⟩⟩
   have c:imgOf s=none:=by
    rw [a9,if_neg];rintro⟨hA,_⟩;rw [hA,QE] at S;exact a0 (congrArg (λz:List UInt8=>(⟨z.toArray⟩:ByteArray)) S.symm)
  all_goals
   refine rbuild (cs:=enc zGr) rfl (rE Z5 zGr λG d R=>?_);have d:Bk G o (enc zGr) 77:=d;refine rresG (B:=d) rfl ?_;exact⟨.inr ⟨c,rfl⟩,⟨Fr.st (lE w L) R C⟩⟩
 have c0:N - k=(N - (k+1))+1:=by omega
 have c1:rdPl (s.drop A)=none->rdI s=none:=λh=>(Y.trans (by rw [<-J.pre,c0,zA4 h];rfl));refine rcall (zKy (A:=A) (by omega)) ?_;rintro _ L ⟨⟨p,A',v1,G,b0,rfl,O1,O2⟩|⟨c,rfl⟩,e1⟩
 case' inr =>
  have c:=c1 c;have X:=J.z.mv (w:=L);refine rbuild (cs:=enc zGr) rfl (rE X zGr λG d R=>?_);have d:Bk G o (enc zGr) 77:=d;refine rresG (B:=d) rfl ?_;exact⟨.inr ⟨img_no c,rfl⟩,⟨Fr.st Le.e R C⟩⟩
 have c2:=zBZ b0.2;have d4:=zCj (rowsOf ps) 0 (by intro l hl;obtain⟨p,I,rfl⟩:=Qq.1 hl;exact(J.sm p I).1);rw [Qr,J.len] at d4;have c3:=Js.e.size;obtain⟨l,O⟩:=p;have O1:Own w.heap.size 3 L v1 (intsN l):=O1.mono c3;have O2:Own w.heap.size 9 L G (O.map bsOf):=O2.mono c3;have J1:=J.toPbJ.up (u':=L);have c4:=J.len;have c5:=J.pre;have d5:=J.sm;have f7:l.length<=4000:=c2.1;have f:=O1.shape;obtain⟨ra,rc,rfl⟩:=f;have b1:(intsN l).length=l.length:=by simp [intsN]
 refine cnt TBok 14 [] 13 (intsN l).length (λj u'=>∃U W,PbJ w o Z N u' (edsOf 0 (rowsOf ps)++(l.take j).map λt=>⟨k,t⟩) U W wa wc vs (wdsOf ps)/\Own w.heap.size 3 u' (.slice ra (intsN l).length rc) (intsN l)/\Own w.heap.size 9 u' G (O.map bsOf)) rfl rfl
  ⟨U,W,by simpa using J1,O1,O2⟩ ?_
 clear J J1 O1 O2 G4 Z4;rintro j f9 u2 hj ⟨b2,b3,J2,O1,O2⟩;have c8:=J2.g;have s2:=J2.st;refine ite (λe4=>?_) (λe7=>?_)
 case' refine_1 =>
  have c9:j<l.length:=by omega
  have d0:(edsOf 0 (rowsOf ps)++(l.take j).map λt=>(⟨k,t⟩:EdN)).length<=1000000:=by rw [Qb,Qr,Qm];omega
  have d6:edsOf 0 (rowsOf ps)++(l.take (j+1)).map (λt=>(⟨k,t⟩:EdN))=(edsOf 0 (rowsOf ps)++(l.take j).map λt=>(⟨k,t⟩:EdN))++[⟨k,l[j]⟩]:=by rw [take_add c9,QB,Qp];rfl
  refine dT (λi=>i=Z\/ownD w.heap.size (.slice b2 (edsOf 0 (rowsOf ps)++(l.take j).map λt=>(⟨k,t⟩:EdN)).length b3) i) (oL [0,2,3,4,5,6,7] (.duo 1 (oL [8,9,10,11] .nil) 8 (.lone 1 (oL [9,10,11] .nil)))) λu3 e3=>?_;have J3:=J2.up (u':=u3);have b4:=J3.g;have O3:=O1.up (w':=u3);refine tixO rfl (i:=j) (x:=(l[j]:Int)) O3 (by simp [intsN,c9]) λg4 d7 g0 A4=>tload1 (A4.cell0 rfl) (λhd=>?_) ?_
  ·obtain⟨cs,K⟩:=O3.bk (by intro h0;rw [h0] at b1;simp at b1;omega) d7;rcases hd with hd|hd
   ·exact K.ne b4 (by decide) hd
   ·exact K.notOwn J3.es (by decide) hd
  refine tbuild (cs:=enc (⟨k,l[j]⟩:EdN)) rfl ?_;refine⟨?_,?_⟩
  case' refine_1 =>
   refine rX b4 rfl ⟨Fr.refl _ _,?_⟩;refine rbs1 (α:=EdN) ⟨k,l[j]⟩ rfl rfl (by decide) λb5 u5 e5 _ S5=>⟨Fr.fr e5.e,?_⟩
  case' refine_2 =>
   refine rbs1 (α:=EdN) ⟨k,l[j]⟩ rfl rfl (by decide) λb5 u5 e5 _ S5=>⟨Fr.fr e5.e,?_⟩;refine rX b4 rfl ⟨Fr.refl _ _,?_⟩
  all_goals
   have Q:=J3.up (u':=u5);have d8:=Q.g;have s5:=Q.st;refine rapp1 (u:=w) ⟨rfl,rfl⟩ Q.es S5 (by omega) λv6 u6 O6 M s6=>⟨M.mono λi _ hi=>.inr hi,?_⟩;have G6:=d8.fro Q.es M (by decide);rw [<-d6] at O6;have f:=O6.shape;obtain⟨a6,c6,rfl⟩:=f;refine rS G6 [.slice a6 (edsOf 0 (rowsOf ps)++(l.take (j+1)).map λt=>(⟨k,t⟩:EdN)).length c6] (sv1 _ _ _) λu7 G7 H=>⟨H.mono λi _ hi=>.inl hi,?_⟩
   have J7:PbJ w o Z N u7 (edsOf 0 (rowsOf ps)++(l.take (j+1)).map λt=>(⟨k,t⟩:EdN)) a6 c6 wa wc vs (wdsOf ps):=
    ⟨(Q.z.fro Q.es M (by decide)).fr H a8,G7,O6.frc H G6 (by decide),(Q.wo.fro Q.es M (by decide)).frc H G6 (by decide),(Q.rows.fro Q.es M (by decide)).frc H G6 (by decide),⟨Fr.st (lE w u6) H a5⟩⟩
   have O7:=((O3.up (w':=u5)).fro Q.es M (by decide)).frc H G6 (by decide);have W7:=((O2.up (w':=u5)).fro Q.es M (by decide)).frc H G6 (by decide);exact rA ⟨rfl,by omega,a6,c6,J7,O7,W7⟩
 have f:j=(intsN l).length:=by omega
 obtain rfl:=f;rw [b1,Qg] at J2;have d0:(edsOf 0 (rowsOf ps)++l.map λt=>(⟨k,t⟩:EdN))=edsOf 0 (rowsOf ps++[l]):=by rw [zEd,JO,Qr,c4]
 rw [d0] at J2;have c8:=J2.g;have f:=O2.shape;obtain⟨sa,sc,rfl⟩:=f;refine rX c8 rfl (rbs1 (⟨sa,(O.map bsOf).length,sc⟩:SV) rfl rfl (by decide) λb6 u6 e6 _ S6=>?_);have T:=J2.up (u':=u6);have s6:=T.st;have d9:=T.g;refine rapp1 (u:=w) ⟨rfl,rfl⟩ T.wo S6 (by omega) λv7 u7 O7 H s7=>?_;have G7:=d9.fro T.wo H (by decide);have f:=O7.shape;obtain⟨a7,c7,rfl⟩:=f;refine rS G7 [.slice a7 (vs++[(⟨sa,(O.map bsOf).length,sc⟩:SV)]).length c7] (sv1 _ _ _) λu8 G8 f8=>?_;have e0:=(((O2.up (w':=u6)).fro T.wo H (by decide)).frc f8 G7 (by decide));have q1:rowsOf (ps++[(l,O)])=rowsOf ps++[l]:=by simp [rowsOf]
 have q2:wdsOf (ps++[(l,O)])=wdsOf ps++[O.map bsOf]:=by simp [wdsOf]
 have J8:PbJ w o Z N u8 (edsOf 0 (rowsOf (ps++[(l,O)]))) b2 b3 a7 c7 (vs++[(⟨sa,(O.map bsOf).length,sc⟩:SV)]) (wdsOf (ps++[(l,O)])):=by
  rw [q1,q2];exact⟨(T.z.fro T.wo H (by decide)).fr f8 a8,G8,(T.es.fro T.wo H (by decide)).frc f8 G7 (by decide),O7.frc f8 G7 (by decide),RowsO.add ((T.rows.fro T.wo H (by decide)).frc f8 G7 (by decide)) e0,⟨Fr.st (lE w u7) f8 a5⟩⟩
 refine rA ⟨rfl,by omega,ps++[(l,O)],A',b2,b3,a7,c7,vs++[(⟨sa,(O.map bsOf).length,sc⟩:SV)],⟨J8,?_,b0.1,?_,?_⟩,rfl⟩
 ·rw [Qb,c4];rfl
 ·rw [<-c5,c0,zAD b0.2]
 ·intro p I;have f:=Qf.1 I;rcases f with I|I
  ·exact d5 p I
  ·rw [Qc.1 I];exact c2
theorem zOJ{l:List ByteArray}{x:ByteArray}(h:l.Pairwise ltW)(v:j<=l.length)(r:∀i (hi:i<l.length),i<j->ltW l[i] x)(t:∀hi:j<l.length,ltW x l[j]):(l.take j++x::l.drop j).Pairwise ltW:=by
 rw [VK,QM]
 have hd:∀y∈l.drop j,ltW x y:=λy d=>by
  have c:=QI.1 d;obtain⟨i,hi,rfl⟩:=c;rw [QR] at hi;rw [Yf];have f:=t (by omega);have c:=X0 i;rcases c with h0|h0
  ·subst h0;exact f
  ·exact ltW_tr _ _ _ f (QX.1 h j (j+i) (by omega) (by omega) (by omega))
 have o:∀y∈l.take j,ltW y x:=λy d=>by
  have c:=QI.1 d;obtain⟨i,hi,rfl⟩:=c;rw [Qm] at hi;rw [VI];exact r i (by omega) (by omega)
 refine⟨h.sublist (List.take_sublist _ _),⟨hd,h.sublist (List.drop_sublist _ _)⟩,λa p b e=>?_⟩;have c:=Ql.1 e;rcases c with rfl|e
 ·exact o a p
 ·exact ltW_tr _ _ _ (o a p) (hd b e)
theorem zKv{c:Nat}{l:List ByteArray}{w:World}(h:SlF w (.slice a n c) l)(hn:l.length<=100000):
  Sp PP 102 #[.slice a n c] w λv w'=>(∃b,Own w.heap.size 9 w' v b/\b.Pairwise ltW/\(∀s,s∈b↔s∈l)/\b.length<=l.length)/\Stp w w':=by
 have f:=h.len;obtain rfl:=f;refine eN ?_;refine cnt1 TBok 7 [5,6] 3 4 l.length (λk v u=>(∃b,Own w.heap.size 9 u v b/\b.Pairwise ltW/\(∀s,s∈b↔s∈l.take k)/\b.length<=k)/\Stp w u) rfl rfl ⟨⟨[],Own.nil _ _ _,.nil,by simp,by simp⟩,stp⟩ ?_;rintro k v g u hk ⟨⟨b,O,J,y,K⟩,e⟩;have f:=O.shape;obtain⟨oa,oc,rfl⟩:=f;refine ite (λhlt=>?_) (λU=>?_)
 ·have p:k<l.length:=by omega
  have z:=take_add p;refine cntJ TBok 2 7 [] 5 b.length (λj u'=>(∀i (hi:i<b.length),i<j->ltW b[i] l[k])/\Stp u u') (λj u'=>j<=b.length/\(∀i (hi:i<b.length),i<j->ltW b[i] l[k])/\(∀hi:j<b.length,¬ltW b[j] l[k])/\Stp u u') rfl rfl ⟨by omega,stp⟩ ?_ ?_
  ·rintro j g u' t ⟨A,V⟩;refine dQ 15 λS e1=>ite (λW=>?_) (λW=>⟨j,rfl,t,A,λh=>absurd h (by omega),stp⟩);have C:j<b.length:=by omega
   refine tix (O.sl.up (w':=S)) (x:=b[j]) (by simp) λG H o _=>tload1 (o.cell0 rfl) nf (tix (h.up (w':=S)) (x:=l[k]) (by simp) λG H o _=>tload1 (o.cell0 rfl) nf (tslt (λL=>?_) (λL=>⟨j,rfl,t,A,λ_=>L,stp⟩)));refine rA ⟨rfl,C,λi hi X=>?_,stp⟩;have f:=QH i j;rcases f with I|I
   ·exact A i hi I
   ·have f:i=j:=by omega
    obtain rfl:=f;exact L
  rintro j g u' ⟨t,A,M,V⟩;refine dQ 15 λr e2=>ite (λI=>?pos2) (λI=>?neg2)
  case' pos2 =>
   have C:j<b.length:=by omega
   refine tix (O.sl.up (w':=r)) (x:=b[j]) (by simp) λG H o _=>tload1 (o.cell0 rfl) nf (tix (h.up (w':=r)) (x:=l[k]) (by simp) λG H o _=>tload1 (o.cell0 rfl) nf (tseq (λQ=>?same) (λQ=>?new)))
   case same =>
    refine rA ⟨rfl,p,⟨b,O.up,J,λs=>?_,by omega⟩,stp⟩;rw [z,Qf,Qc,y];constructor
    ·exact .inl
    ·rintro(d|d)
     ·exact d
     ·rw [d,<-Q,<-y];exact Qa _
   have hgt:∀hi:j<b.length,ltW l[k] b[j]:=λhi=>by
    have f:=zFl b[j] l[k];rcases f with d|d|d
    ·exact absurd d (M hi)
    ·exact absurd d Q
    ·exact d
  case' neg2 =>
   have hgt:∀hi:j<b.length,ltW l[k] b[j]:=λhi=>absurd hi (by omega)
  all_goals
   refine rsl none (some j) (O.sl.up (w':=r)) (by simp) (by simpa using t) λY c1 Z=>?_;refine rapp (u:=r) ⟨rfl,rfl⟩ (Own.nil _ 9 _) Z (by simp;omega) λv3 w3 O3 f3 s3=>rix (h.up (w':=w3)) (x:=l[k]) (by simp) λG H o=>rload1 (o.cell0 rfl) (rbs1 l[k] rfl rfl (by decide) λb4 w4 e4 _ S4=>rapp1 (u:=r) ⟨rfl,rfl⟩ O3.up S4 (by simp;omega) λv5 w5 O5 f5 s5=>rsl (some j) none (O.sl.up (w':=w5)) (by simpa using t) (by simp) λY c1 S6=>?_);refine rapp (u:=r) ⟨rfl,rfl⟩ O5 S6 (by simp;omega) λv7 w7 T f7 s7=>?_
   have O8:Own r.heap.size 9 w7 v7 (b.take j++l[k]::b.drop j):=by
    rw [zCR,zBx] at T;simpa using T
   refine rA ⟨rfl,p,⟨_,O8.older,zOJ J t A hgt,λs=>?_,by simp;omega⟩,stp⟩;rw [z,Qf,Ql,Qf,Qc,<-y];have R:s∈b↔s∈b.take j\/s∈b.drop j:=by rw [<-Qf,JW]
   rw [R];constructor
   ·rintro(d|d|d)
    ·exact .inl (.inl d)
    ·exact .inr d
    ·exact .inl (.inr d)
   ·rintro((d|d)|d)
    ·exact .inl d
    ·exact .inr (.inr d)
    ·exact .inr (.inl d)
 ·have f:k=l.length:=by omega
  obtain rfl:=f;rw [Qg] at y;exact⟨⟨b,O,J,y,K⟩,stp⟩
theorem zGu{c:Nat}{z:List ByteArray}{ps:List RPo}{s:ByteArray}{w:World}(h:SlF w (.slice a n c) ps)(M:PosM w g z ps)(H:GrIs g)(R:ps.length<=100000):
  Sp PP 365 #[.slice a n c,.string s] w λv w'=>Own w.heap.size 3 w' v (plOf g s)/\Stp w w':=by
 have I:=H.ok.n2;have d:=h.len;obtain rfl:=d;have J:=zB9 g s;refine eN ?_;refine cnt TBok 6 [4] 5 ps.length (λk u=>(∀x∈z.take k,x≠s)/\Stp w u) rfl rfl ⟨by simp,stp⟩ ?_;rintro k G u S ⟨b,e⟩;refine ite (λhlt=>?_) (λK=>?_)
 ·have l:k<ps.length:=by omega
  have o:k<z.length:=by have:=M.len;omega
  have d:=M.at' k l o;obtain⟨p,r⟩:=d;refine rix (h.up (w':=u)) (x:=ps[k]) (by simp) λL O A=>rload1 (A.cell 0 rfl) (rseq (λy=>?_) (λy=>?_))
  ·rw [p] at y;rw [y] at r;refine rix (h.up (w':=u)) (x:=ps[k]) (by simp) λL O A=>rload1 (A.cell 1 rfl) (rcall (zHE (r.up (w':=u)) (by omega)) ?_);rintro v T ⟨Q,U⟩;exact⟨Q.mono (lz w u),stp⟩
  ·refine rA ⟨rfl,l,λt f=>?_,stp⟩;rw [take_add o] at f;have d:=Qf.1 f;rcases d with f|f
   ·exact b t f
   ·rw [Qc.1 f,<-p];exact y
 ·have d:k=ps.length:=by omega
  obtain rfl:=d;rw [M.len,Qg] at b;rw [zIY H.nw λC=>b s ((M.all s).2 C) rfl];exact⟨Own.nil _ _ _,e⟩
theorem zLw{c c2:Nat}{l m:List Int}{w:World}(h:SlF w (.slice a n c) l)(y:SlF w (.slice a2 n2 c2) m)(R:l.length<=1000000)(z:m.length<=1000000):
  Sp PP 366 #[.slice a n c,.slice a2 n2 c2] w λv w'=>Own w.heap.size 3 w' v (risingL (l.filter λx=>decide (x∈m)))/\Stp w w':=by
 have d:=h.len;obtain rfl:=d;refine eN ?_;refine cnt1 TBok 7 [] 5 6 l.length (λk v u=>Own w.heap.size 3 u v ((l.take k).filter λx=>decide (x∈m))/\Stp w u) rfl rfl ⟨Own.nil _ _ _,stp⟩ ?_;rintro k v g u S ⟨O,e⟩;refine ite (λhlt=>?_) (λA=>?_)
 ·have b:k<l.length:=by omega
  have f:=Qv (λx=>decide (x∈m)) (l.take k);rw [Qm] at f;refine rix (h.up (w':=u)) (x:=l[k]) (by simp) λC G p=>rload1 (p.cell0 rfl) (rcall (zI1 (x:=l[k]) (y.up (w':=u)) z) ?_);rintro _ o ⟨⟨rfl,r⟩|⟨rfl,r⟩,H⟩
  ·refine rix (h.up (w':=o)) (x:=l[k]) (by simp) λC G p=>rload1 (p.cell0 rfl) (rbs1 l[k] rfl rfl (by decide) λT I U _ J=>rapp1 (u:=w) ⟨rfl,rfl⟩ (O.up (w':=I)) J (by omega) λK L M V W=>?_);have t:Own w.heap.size 3 L K ((l.take (k+1)).filter λx=>decide (x∈m)):=by rw [take_add b,QV];simpa [r] using M
   exact rA ⟨rfl,b,t,stp⟩
  ·have t:Own w.heap.size 3 o v ((l.take (k+1)).filter λx=>decide (x∈m)):=by rw [take_add b,QV];simpa [r] using O.up (w':=o)
   exact rA ⟨rfl,b,t,stp⟩
 ·have d:k=l.length:=by omega
  obtain rfl:=d;rw [Qg] at O;have f:=Qv (λx=>decide (x∈m)) l;have d:=O.shape;obtain⟨oa,oc,rfl⟩:=d;refine rcall (zET O.sl (by omega)) ?_;rintro v o ⟨Q,H⟩;exact⟨Q.mono (lz w u),stp⟩
theorem zNg{c c2:Nat}{S:List ByteArray}{ps:List RPo}{q:List ByteArray}{w:World}(h:SlF w (.slice a n c) ps)(M:PosM w g S ps)(o:GrIs g)(G:ps.length<=100000)(p:SlF w (.slice a2 n2 c2) q)(d:q≠[])(T:q.length<=1000000):
  Sp PP 305 #[.slice a n c,.slice a2 n2 c2] w λv w'=>(∃H,v=.tuple #[H,.int .i64 0]/\Own w.heap.size 3 w' H (placesL g q))/\Stp w w':=by
 have b:=h.len;obtain rfl:=b;have b:=p.len;obtain rfl:=b;have U:=o.ok.n2;have r:0<q.length:=JI.2 d;refine eN ?_;refine iF (by omega) (rix (i:=0) p (x:=q[0]) (by simp) λV W t=>rload1 (t.cell0 rfl) (rcall (zGu (s:=q[0]) h M o G) ?_));rintro _ w1 ⟨I,e1⟩;have X:=zB9 g q[0];have b:=I.shape;obtain⟨fa,fc,rfl⟩:=b;refine rcall (zET I.sl (by omega)) ?_;rintro _ w2 ⟨Y,e2⟩;have f:=zGy (plOf g q[0]);have Z:=zEv (plOf g q[0])
 refine loop2 TBok 8 [] 6 7 (λJ v u=>∃(k:Nat) (L:List Int),v=.int .i64 ((k:Int)+1)/\k+1<=q.length/\Own w.heap.size 3 u J L/\L.Pairwise (· < ·)/\L.length<=200/\(∀x,x∈L↔∀s∈q.take (k+1),x∈plOf g s)/\Stp w u) (λ_ v _=>q.length+1 - (Go.RowKit.intOf v).toNat) rfl
  ⟨0,_,rfl,by omega,Y.mono (lz w w1),f.1,by omega,λx=>?_,stp⟩ ?_
 ·rw [f.2,take_add r];simp
 rintro J _ gf u ⟨k,L,rfl,hk,O,hr,hl,y,e⟩;refine ite (λhlt=>?_) (λa0=>?_)
 ·have z:k+1<q.length:=by omega
  refine rix (i:=k+1) (p.up (w':=u)) (x:=q[k+1]) (by simp) λV W t=>rload1 (t.cell0 rfl) (rcall (zGu (s:=q[k+1]) (h.up (w':=u)) (M.up (w':=u)) o G) ?_);rintro _ K ⟨Q,e3⟩;have hp:=zB9 g q[k+1];have b:=O.shape;obtain⟨oa,oc,rfl⟩:=b;have b:=Q.shape;obtain⟨ga,gc,rfl⟩:=b;refine rcall (zLw (O.sl.up (w':=K)) Q.sl (by omega) (by omega)) ?_;rintro _ u2 ⟨O4,e4⟩;have R:=zGy (L.filter λx=>decide (x∈plOf g q[k+1]));have a1:=zEv (L.filter λx=>decide (x∈plOf g q[k+1]));have a4:=Qv (λx=>decide (x∈plOf g q[k+1])) L;refine rA ⟨⟨k+1,_,rfl,by omega,O4.mono (lz w K),R.1,by omega,λx=>?_,stp⟩,?_⟩
  ·rw [R.2,take_add z,QC,y];simp only [decide_eq_true_eq,Qf,Qc];constructor
   ·rintro⟨l,h2⟩ s (A|A)
    ·exact l s A
    ·rw [A];exact h2
   ·exact λl=>⟨λs hs=>l s (.inl hs),l _ (.inr rfl)⟩
  ·show q.length+1 - (((k:Int)+1+1)).toNat<q.length+1 - (((k:Int)+1)).toNat;omega
 ·have C:k+1=q.length:=by omega
  rw [C,Qg] at y;have hL:=zHz hr d y;rw [hL] at O;exact⟨⟨_,rfl,O⟩,e⟩
theorem fJ_len(g:GrD)(k j:Nat)(s:ByteArray):(fJ g k j s).length<=k+1:=by
 have:=fK_len g k s;unfold fJ;rw [Qb];split <;> simp <;> omega
theorem po_one(s:ByteArray)(a:Option Addr)(n c:Nat):∀u∈[Value.string s,Value.slice a n c],u.oneCell'=true:=by intro u b;simp at b;rcases b with rfl|rfl <;> rfl
theorem zLx{x:RGr}{vs:List SV}{w:World}(V:GrV w x g vs)(K:GrIs g):
  Sp PP 49 #[agg x] w λv w'=>(∃a c ps d,v=.tuple #[.slice a ps.length c,.int .i64 0]/\PosM w' g d ps/\ps.length<=2000/\Own w.heap.size 170 w' (.slice a ps.length c) ps/\∀i (h:i<ps.length) (y:i<d.length),Own w.heap.size 3 w' ps[i].pl.v (plOf g d[i]))/\Stp w w':=by
 have hn:=V.n;have c0:=V.rows.1;have c1:=K.ok.n2;have c2:=K.nw;refine eN ?_;refine rbx λb w1 n1 L=>rG L x (rcall (zFv (V.up (w':=w1))) ?_);rintro _ w2 ⟨⟨rfl,_⟩|⟨rfl,h⟩,e2⟩
 case' inr=>exact absurd K h
 refine cnt1 TBok 6 [] 4 5 g.n (λk v u=>(∃E',Own w1.heap.size 9 u v E'/\(∀s,s∈E'↔∃l∈g.ws.take k,s∈l)/\E'.length<=8*k)/\Stp w1 u) rfl rfl ⟨⟨[],Own.nil _ _ _,by simp,by simp⟩,stp⟩ ?_;rintro k v gf u hk ⟨⟨ev,O,hm,c3⟩,e⟩;refine rld (B:=L) (v:=.int .i64 (g.n:Int)) (by rw [<-hn];rfl) (ite (λhlt=>?_) (λc4=>?_))
 ·have C:k<vs.length:=by omega
  have o:k<g.ws.length:=by omega
  have R:=V.rows.2 k C o;have h8:=(K.word _ (Qa o)).1;refine rX L rfl (rix (V.ws.up (w':=u)) (x:=vs[k]) (by simp) λb2 o2 Q=>rload1 (Q.cell0 rfl) (rapp (u:=w1) ⟨rfl,rfl⟩ O (R.up (w':=u)) (by omega) λv3 w3 O3 f3 s3=>rA ⟨rfl,by omega,⟨_,O3,λs=>?_,by rw [Qb];omega⟩,stp⟩));rw [Qf,hm,take_add o];constructor
  ·rintro(⟨l,p,G⟩|p)
   ·exact⟨l,QN _ p,G⟩
   ·exact⟨_,JJ _ (Qc.2 rfl),p⟩
  ·rintro⟨l,p,G⟩;have f:=Qf.1 p;rcases f with p|p
   ·exact .inl ⟨l,p,G⟩
   ·rw [Qc.1 p] at G;exact .inr G
 have f:k=g.n:=by omega
 obtain rfl:=f;rw [Qj (by omega)] at hm;have f:=O.shape;obtain⟨oa,oc,rfl⟩:=f;refine rcall (zKv O.sl (by omega)) ?_;rintro _ A ⟨⟨d,OW,hr,a4,c5⟩,e4⟩;have S:∀s,s∈d↔∃l∈g.ws,s∈l:=λs=>(a4 s).trans (hm s);have f:=OW.shape;obtain⟨wa,wc,rfl⟩:=f;refine cnt1 TBok 9 [] 7 8 d.length (λi v u'=>(∃ps:List RPo,Own A.heap.size 170 u' v ps/\ps.length=i/\∀j (h:j<ps.length) (y:j<d.length),ps[j].word=d[j]/\Own A.heap.size 3 u' ps[j].pl.v (plOf g d[j]))/\Stp A u') rfl rfl ⟨⟨[],Own.nil _ _ _,rfl,λj h=>absurd h (by simp)⟩,stp⟩ ?_;rintro i v c6 t hi ⟨⟨ps,OP,H,hP⟩,e5⟩;refine ite (λb1=>?_) (λb4=>?_)
 case' refine_2 =>
  have f:i=d.length:=by omega
  obtain rfl:=f;have f:=OP.shape;obtain⟨pa,pc,rfl⟩:=f;have z:=lz w A;exact⟨⟨pa,pc,ps,d,rfl,⟨hr,S,H,λj h y=>⟨(hP j h y).1,(hP j h y).2.sl⟩⟩,by omega,OP.mono z,λj h y=>(hP j h y).2.mono z⟩,stp⟩
 have a5:i<d.length:=by omega
 refine rix (OW.sl.up (w':=t)) (x:=d[i]) (by simp) λb3 o3 T=>rload1 (T.cell0 rfl) (rbuild (cs:=[.string d[i],.slice none 0 0]) rfl (ral λU w5 n5 z5=>?_));have c7:=n5.b;have c8:=n5.s;refine rS z5 [.string d[i],.slice none 0 0] (po_one _ _ _ _) λw6 P6 f6=>?_;have P6:Bk w6 U [.string d[i],.slice none 0 0] 170:=P6;have s6:Stp t w6:=⟨Fr.st Le.e f6 λj hj=>by subst hj;exact n5.lo⟩;have a6:∀j,j=U->t.heap.size<=j:=by omega
 refine cnt TBok 11 [] 10 g.n (λk u'=>(∃ya yc,Bk u' U [.string d[i],.slice ya (fK g k d[i]).length yc] 170/\Own t.heap.size 3 u' (.slice ya (fK g k d[i]).length yc) (fK g k d[i]))/\Stp t u') rfl rfl ⟨⟨none,0,P6,Own.nil _ _ _⟩,s6⟩ ?_;rintro k c9 u3 d0 ⟨⟨ya,yc,W,X⟩,s3⟩;refine rld (B:=L) (v:=.int .i64 (g.n:Int)) (by rw [<-hn];rfl) (ite (λb5=>?_) (λb6=>?_))
 case' refine_2 =>
  have f:k=g.n:=by omega
  obtain rfl:=f;rw [fK_all] at W X;refine rG W (⟨d[i],⟨ya,(plOf g d[i]).length,yc⟩⟩:RPo) (rbs1 (⟨d[i],⟨ya,(plOf g d[i]).length,yc⟩⟩:RPo) rfl rfl (by decide) λb7 M e7 _ S7=>?_);have I:=OP.up (w':=M);refine rapp1 (u:=A) ⟨rfl,rfl⟩ I S7 (by omega) λv8 Y Z f8 s8=>?_;have Y8:Own A.heap.size 3 Y (.slice ya (plOf g d[i]).length yc) (plOf g d[i]):=((X.up (w':=M)).mono (lz A t)).fro I f8 (by decide)
  have a0:∃qs:List RPo,Own A.heap.size 170 Y v8 qs/\qs.length=i+1/\∀j (h:j<qs.length) (y:j<d.length),qs[j].word=d[j]/\Own A.heap.size 3 Y qs[j].pl.v (plOf g d[j]):=by
   refine⟨ps++[⟨d[i],⟨ya,(plOf g d[i]).length,yc⟩⟩],Z,by simp [H],λj h y=>?_⟩;have f:=QH j ps.length;rcases f with p|p
   ·rw [List.getElem_append_left p];have f:=hP j p y;obtain⟨G,h3⟩:=f;exact⟨G,(h3.up (w':=M)).fro I f8 (by decide)⟩
   ·obtain rfl:j=ps.length:=by simp at h;omega
    rw [List.getElem_append_right (Qe _)];simp only [JN,Vb];subst H;exact⟨rfl,Y8⟩
  exact rA ⟨rfl,a5,a0,stp⟩
 have C:k<vs.length:=by omega
 have o:k<g.ws.length:=by omega
 have R:=V.rows.2 k C o;have a7:=R.len;have h8:=(K.word _ (Qa o)).1;have a1:g.ws.getD k []=g.ws[k]:=by rw [Qk,Qd o];rfl
 have a8:=ltW_nd (K.wr _ (Qa o));rw [<-zCO] at W X;refine cnt TBok 12 [] 11 g.ws[k].length (λj u'=>(∃ya yc,Bk u' U [.string d[i],.slice ya (fJ g k j d[i]).length yc] 170/\Own t.heap.size 3 u' (.slice ya (fJ g k j d[i]).length yc) (fJ g k j d[i]))/\Stp t u') rfl rfl ⟨⟨ya,yc,W,X⟩,s3⟩ ?_;clear W X;rintro j d1 u4 d2 ⟨⟨ya,yc,P4,Y4⟩,s4⟩;refine rX L rfl (rix (V.ws.up (w':=u4)) (x:=vs[k]) (by simp) λb2 o2 Q=>rload1 (Q.cell0 rfl) (ite (λb8=>?_) (λb9=>?_)))
 case' refine_2 =>
  have f:j=g.ws[k].length:=by omega
  obtain rfl:=f;rw [fJ_end (by rw [a1])] at P4 Y4;exact rA ⟨rfl,by omega,⟨ya,yc,P4,Y4⟩,stp⟩
 have J:j<g.ws[k].length:=by omega
 have r:=congrFun (zMi a1 J a8) d[i];have d3:=fJ_len g k j d[i];refine dQ 13 λu5 d4=>tX L rfl nf (tix (V.ws.up (w':=u5)) (x:=vs[k]) (by simp) λb2 o2 Q _=>tload1 (Q.cell0 rfl) nf (tix (R.up (w':=u5)) (x:=g.ws[k][j]) (by simp) λb3 o3 T _=>tload1 (T.cell0 rfl) nf (tix (OW.sl.up (w':=u5)) (x:=d[i]) (by simp) λb3 o3 T _=>tload1 (T.cell0 rfl) nf (tseq (λa9=>?_) (λb0=>?_)))))
 ·rw [if_pos a9.symm] at r;have P5:=P4.mv (w:=u5);refine rX P5 rfl (rbs1 (k:Int) rfl rfl (by decide) λb7 M e7 _ S7=>?_);have Y7:=Y4.up (w':=M);refine rapp1 (u:=t) ⟨rfl,rfl⟩ Y7 S7 (by omega) λv8 Y Z f8 s8=>?_;have P8:=(P5.mv (w:=M)).fro Y7 f8 (by decide);rw [<-r] at Z;have f:=Z.shape;obtain⟨za,zc,rfl⟩:=f;refine rS P8 [.slice za (fJ g k (j+1) d[i]).length zc] (sv1 _ _ _) λw9 P9 f9=>?_;have P9:Bk w9 U [.string d[i],.slice za (fJ g k (j+1) d[i]).length zc] 170:=P9;exact rA ⟨rfl,J,⟨za,zc,P9,Z.frc f9 P8 (by decide)⟩,⟨Fr.st (lE t Y) f9 a6⟩⟩
 ·rw [if_neg (λh=>b0 h.symm)] at r;exact rA ⟨rfl,J,⟨ya,yc,by rw [r];exact P4.mv,by rw [r];exact Y4.up⟩,stp⟩
theorem zFx{v n:Int}{w:World}:Sp PP 133 #[.int .i64 v,.int .i64 n] w λr w'=>Tells (0<=v/\v<n) r/\w'=w:=by
 refine eN ?_;refine ite (λb=>?_) (λb=>⟨.f (λh=>b h.1),rfl⟩);exact ite (λc=>⟨.t ⟨b,c⟩,rfl⟩) (λc=>⟨.f (λh=>c h.2),rfl⟩)
theorem zFw{xq:RQ}{n:Int}{w:World}(V:QyV w xq q)(hl:q.words.length<=1000000)(T:∀s∈q.words,s.size<=1000000):
  Sp PP 69 #[agg xq,.int .i64 n] w λv w'=>((QyIs q n/\v=.int .i64 0)\/(¬QyIs q n/\v=.int .i64 180))/\Stp w w':=by
 obtain⟨J,K,L,M,O,Q⟩:=V;obtain⟨x1,x2,x3,⟨R,U,S⟩,x4,x5⟩:=xq;simp only at J K L O Q;subst J K L O Q;have C:U=q.words.length:=M.len;subst C;have y:agg (⟨q.kind,q.frm,q.to,⟨R,q.words.length,S⟩,q.rad,q.most⟩:RQ)=.agg #[.int .i64 q.kind,.int .i64 q.frm,.int .i64 q.to,.slice R q.words.length S,.int .i64 q.rad,.int .i64 q.most]:=rfl;rw [y];refine eN ?_;refine rbx λbq w1 n1 b=>?_;have f:¬QyIs q n->∀u:World,Stp w u->((QyIs q n/\Value.int .i64 180=.int .i64 0)\/(¬QyIs q n/\Value.int .i64 180=.int .i64 180))/\Stp w u:=λh u s=>⟨.inr ⟨h,rfl⟩,s⟩;have z:QyIs q n->∀u:World,Stp w u->((QyIs q n/\Value.int .i64 0=.int .i64 0)\/(¬QyIs q n/\Value.int .i64 0=.int .i64 180))/\Stp w u:=λh u s=>⟨.inl ⟨h,rfl⟩,s⟩;refine rX b rfl (ite (λW=>f (λh=>by have:=h.1;omega) _ stp) (λW=>?_));refine rX b rfl (ite (λX=>f (λh=>by have:=h.1;omega) _ stp) (λX=>?_));refine rX b rfl (rcall zFx ?_);rintro _ w1 ⟨⟨rfl,A⟩|⟨rfl,A⟩,rfl⟩
 case' inr=>exact f (λh=>A h.2.1) _ stp
 refine rX b rfl (ite (λE=>?_) (λE=>?_))
 ·refine rX b rfl (rcall zFx ?_);rintro _ _ ⟨⟨rfl,G⟩|⟨rfl,G⟩,rfl⟩
  case' inr=>exact f (λh=>G (h.2.2.1 (by omega))) _ stp
  refine rX b rfl ?_;exact ite (λ_=>z ⟨by omega,A,λ_=>G,λh=>absurd h (by omega)⟩ _ stp) (λH=>absurd E H)
 refine rX b rfl (iF E ?_);have c:q.kind=3:=by omega
 refine rX b rfl (ite (λh=>f (λd=>by have:=d.2.2.2 c;omega) _ stp) (λh7=>?_));refine rX b rfl (ite (λh=>f (λd=>by have:=d.2.2.2 c;omega) _ stp) (λh8=>?_));refine rX b rfl (ite (λh=>f (λd=>by have:=d.2.2.2 c;omega) _ stp) (λh9=>?_));refine rX b rfl (ite (λh=>f (λd=>by have:=d.2.2.2 c;omega) _ stp) (λY=>?_));refine rX b rfl (ite (λh=>f (λd=>by have:=d.2.2.2 c;omega) _ stp) (λZ=>?_));refine rX b rfl (ite (λh=>f (λd=>by have:=d.2.2.2 c;omega) _ stp) (λa0=>?_));refine cnt TBok 6 [4] 5 q.words.length (λk u=>(∀s∈q.words.take k,WordB s)/\Stp w1 u) rfl rfl ⟨by simp,stp⟩ ?_;rintro k g u hk ⟨l,e⟩;refine rX b rfl (ite (λhlt=>?_) (λa1=>?_))
 ·have o:k<q.words.length:=by omega
  refine rX b rfl (rix (M.up (w':=u)) (x:=q.words[k]) (by simp) λb2 o2 A2=>rload1 (A2.cell0 rfl) (rcall (zGs (T _ (Qa o))) ?_));rintro _ u1 ⟨⟨rfl,p⟩|⟨rfl,p⟩,e1⟩
  case' inr=>exact f (λd=>p ((d.2.2.2 c).2.2.2 _ (Qa o))) _ stp
  refine rA ⟨rfl,o,λt r=>?_,stp⟩;rw [take_add o] at r;have I:=Qf.1 r;rcases I with r|r
  ·exact l t r
  ·rw [Qc.1 r];exact p
 ·have I:k=q.words.length:=by omega
  obtain rfl:=I;rw [Qg] at l;exact z ⟨by omega,A,λh=>absurd h (by omega),λ_=>⟨by omega,by omega,by omega,l⟩⟩ _ stp
theorem zHJ{c:Nat}{M:List StD}{d:Int}{w:World}(h:SlF w (.slice a n c) M)(E:M.length<=1000000):Sp PP 304 #[.slice a n c,.int .i64 d] w λv w'=>v=.bool (hasDir M d)/\Stp w w':=by
 have l:=h.len;obtain rfl:=l;refine eN ?_;refine cnt TBok 6 [4] 5 M.length (λk u=>(∀y∈M.take k,y.key.dir≠d)/\Stp w u) rfl rfl ⟨by simp,stp⟩ ?_;rintro k g u o ⟨p,e⟩;refine ite (λhlt=>?_) (λt=>?_)
 ·have f:k<M.length:=by omega
  refine rix (h.up (w':=u)) (x:=M[k]) (by simp) λG H z=>rload1 (z.cell 1 rfl) (ite (λr=>?_) (λr=>?_))
  ·have o:hasDir M d=true:=Vi.2 ⟨_,Qa f,decide_eq_true r⟩;exact⟨by rw [o];rfl,stp⟩
  ·refine rA ⟨rfl,f,λy b=>?_,stp⟩;rw [take_add f] at b;have l:=Qf.1 b;rcases l with b|b
   ·exact p y b
   ·rw [Qc.1 b];exact r
 ·have l:k=M.length:=by omega
  obtain rfl:=l;rw [Qg] at p
  have o:hasDir M d=false:=by
   cases A:hasDir M d with
   |false=>rfl
   |true=>obtain⟨y,b,C⟩:=Vi.1 A;exact absurd (of_decide_eq_true C) (p y b)
  exact⟨by rw [o];rfl,e⟩
theorem zHI{xq:RQ}{w:World}(V:QyV w xq q)(A:q.words.length<=1000000):
  Sp PP 312 #[agg xq,agg (⟨0,0,0,⟨none,0,0⟩,0,0⟩:RQ)] w λv w'=>Tells (q=zQy) v/\Stp w w':=by
 obtain⟨p,r,x,C,y,z⟩:=V;have b:¬(q.kind=0/\q.frm=0/\q.to=0/\q.words=[]/\q.rad=0/\q.most=0)->¬q=zQy:=λh e=>h (by rw [e];exact⟨rfl,rfl,rfl,rfl,rfl,rfl⟩);refine eN ?_;refine rbx λK w1 n1 d=>rbx λL w2 n2 l=>rX d rfl (rX l rfl ?_);refine ite (λE=>?_) (λh=>⟨.f (b λq=>h (p.trans q.1)),stp⟩);refine rX d rfl (rX l rfl ?_);refine ite (λG=>?_) (λh=>⟨.f (b λq=>h (r.trans q.2.1)),stp⟩);refine rX d rfl (rX l rfl ?_);refine ite (λH=>?_) (λh=>⟨.f (b λq=>h (x.trans q.2.2.1)),stp⟩);refine rld (B:=d) (v:=.slice xq.words.a xq.words.n xq.words.c) rfl (rX l rfl ?_);refine rcall (zFu (C.up (w':=w2)) (SlF.nil _) A) ?_;rintro _ M ⟨⟨rfl,o⟩|⟨rfl,o⟩,O⟩
 case' inr=>exact⟨.f (b λq=>o q.2.2.2.1),stp⟩
 refine rX d rfl (rX l rfl ?_);refine ite (λI=>?_) (λh=>⟨.f (b λq=>h (y.trans q.2.2.2.2.1)),stp⟩);refine rX d rfl (rX l rfl ?_);refine ite (λJ=>⟨.t ?_,stp⟩) (λh=>⟨.f (b λq=>h (z.trans q.2.2.2.2.2)),stp⟩);obtain⟨q1,q2,q3,q4,q5,q6⟩:=q;dsimp only at p r x y z o;unfold zQy;rw [<-p,<-r,<-x,o,<-y,<-z,E,G,H,I,J]
theorem zIe{x:RReq}{d:RqD}{w:World}(V:RqV w x d)(A:d.q.words.length<=1000000)(G:∀s∈d.q.words,s.size<=1000000):Sp PP 231 #[agg x] w λv w'=>Tells (RqIs d) v/\Stp w w':=by
 have Y:=V.id;have Z:=V.kind;have Q:=V.q;have H:=Q.kind;have I:=Q.to;have r:=Q.ws.len;have J:=Q.rad;have K:=Q.most;refine eN ?_;refine rbx λb1 w1 n1 e=>rG e x.q (ral λL w2 n2 z2=>rE z2 x.q λl b M=>?_);have b:Bk l L (enc x.q) 53:=b;have s3:Stp w1 l:=n2.st M;refine rld (B:=e) (v:=.int .i64 x.id) rfl (rcall zEU ?_);rintro _ l ⟨⟨rfl,C⟩|⟨rfl,C⟩,rfl⟩
 case' inr=>exact⟨.f (λh=>C (by have:=h.2.1;omega)),stp⟩
 refine rld (B:=e) (v:=.int .i64 x.kind) rfl (ite (λO=>?_) (λO=>?_))
 ·refine rG b x.q (rbuild (cs:=enc (⟨0,0,0,⟨none,0,0⟩,0,0⟩:RQ)) rfl (rcall (zHI (Q.up (w':=l)) A) ?_));rintro _ R ⟨⟨rfl,o⟩|⟨rfl,o⟩,S⟩
  ·exact⟨.t ⟨.inl (by omega),by omega,by rw [if_pos (by omega)];exact o⟩,stp⟩
  ·exact⟨.f (λh=>o (by have:=h.2.2;rwa [if_pos (by omega)] at this)),stp⟩
 refine rld (B:=b) (v:=.int .i64 x.q.kind) rfl (rld (B:=e) (v:=.int .i64 x.kind) rfl ?_);refine ite (λo=>⟨.f (λh=>by rcases h.1 with h|h <;> omega),stp⟩) (λo=>?_);refine rG b x.q (rcall (zFw (n:=200) (Q.up (w':=l)) A G) ?_);rintro _ R ⟨⟨y,rfl⟩|⟨y,rfl⟩,S⟩
 case' inr =>
  refine ite (λ_=>⟨.f (λh=>by
   have T:=h.1;rcases T with h|h
   ·omega
   ·exact y h.2),stp⟩) (λh=>absurd (by decide) h)
 refine iF (· rfl) ?_;have ok:d.kind=4\/d.q.kind=d.kind/\QyIs d.q 200:=.inr ⟨by omega,y⟩;refine rld (B:=e) (v:=.int .i64 x.kind) rfl (ite (λU=>?_) (λU=>?_))
 ·refine rld (B:=b) (v:=.int .i64 x.q.to) rfl ?_;exact ite (λp=>⟨.t ⟨ok,by omega,by rw [if_neg (by omega),if_pos (by omega)];omega⟩,stp⟩) (λp=>⟨.f (λh=>by have:=h.2.2;rw [if_neg (by omega),if_pos (by omega)] at this;omega),stp⟩)
 have z:∀h:RqIs d,d.q.words=[]/\d.q.rad=0/\d.q.most=0:=λh=>by have:=h.2.2;rwa [if_neg (by omega),if_neg (by omega)] at this
 refine rld (B:=b) (v:=.slice x.q.words.a x.q.words.n x.q.words.c) rfl (ite (λp=>?_) (λp=>⟨.f (λh=>p (by have:=(z h).1;rw [r,this];rfl)),stp⟩));refine rld (B:=b) (v:=.int .i64 x.q.rad) rfl (ite (λW=>?_) (λW=>⟨.f (λh=>by have:=(z h).2;omega),stp⟩));refine rld (B:=b) (v:=.int .i64 x.q.most) rfl (ite (λX=>⟨.t ⟨ok,by omega,?_⟩,stp⟩) (λX=>⟨.f (λh=>by have:=(z h).2;omega),stp⟩));rw [if_neg (by omega),if_neg (by omega)];exact⟨Qn (by omega),by omega,by omega⟩
theorem nums2{a b:Int}(c:0<=a/\a<=2147483647)(d:0<=b/\b<=2147483647):numsB [a,b]=numB a.toNat++numB b.toNat:=by simp [numsB,c,d]
theorem zEu{a b:Int}{w:World}{x:Option Addr}{c:Nat}(h:SlF w (.slice x 2 c) [a,b])(d:0<=a/\a<=2147483647)(f:0<=b/\b<=2147483647):
  Sp PP 222 #[.slice x 2 c] w λv w'=>v=txt (numB a.toNat++numB b.toNat)/\Stp w w':=
 (zAT h (by simp)).mono λv w' ⟨e,s⟩=>⟨by rw [e,nums2 d f],s⟩
theorem nb5{n:Int}(h:0<=n/\n<=2147483647):(numB n.toNat).length<=5:=zAm (by omega)
theorem zGb{x:RReq}{d:RqD}{w:World}(V:RqV w x d)(hl:d.q.words.length<=1000000)(I:∀s∈d.q.words,s.size<=1000000):
  Sp PP 131 #[agg x] w λv w'=>((RqIs d/\v=.tuple #[txt (encRq d),.int .i64 0])\/(¬RqIs d/\v=.tuple #[txt [],.int .i64 1]))/\Stp w w':=by
 have k1:=V.id;have J:=V.kind;have Q:=V.q;have t:=Q.frm;have K:=Q.to;have L:=Q.ws.len;have M:=Q.rad;have O:=Q.most;refine eN ?_;refine rbx λb1 w1 n1 r=>rG r x (rcall (zIe (V.up (w':=w1)) hl I) ?_);rintro _ w2 ⟨⟨rfl,hd⟩|⟨rfl,hd⟩,e2⟩
 case' inr=>exact⟨.inr ⟨hd,rfl⟩,stp⟩
 have y:=hd.2.1;have b:d.kind≠4->d.q.kind=d.kind:=λh=>(hd.1.resolve_left h).1;have R:d.kind≠4->QyIs d.q 200:=λh=>(hd.1.resolve_left h).2
 have a1:d.kind=1\/d.kind=2\/d.kind=3\/d.kind=4:=by
  by_cases h:d.kind=4
  ·omega
  ·have:=b h;have:=(R h).1;omega
 refine rG r x.q (ral λb2 w3 n3 z3=>rE z3 x.q λS o f4=>?_);have o:Bk S b2 (enc x.q) 53:=o;have s4:Stp w2 S:=n3.st f4;refine rld (B:=r) (v:=.int .i64 d.id) (by rw [<-k1];rfl) (rld (B:=r) (v:=.int .i64 d.kind) (by rw [<-J];rfl) ?_);refine rbs [d.id,d.kind] rfl (vs:=[_,_]) rfl rfl (by decide) λb5 w5 n5 S5=>?_;have s5:Stp S w5:=⟨n5.ext⟩;refine rcall (zEu S5 y (by omega)) ?_;rintro _ w6 ⟨rfl,e6⟩;have l1:=nb5 y;have l2:=nb5 (n:=d.kind) (by omega);refine rld (B:=r) (v:=.int .i64 d.kind) (by rw [<-J];rfl) (ite (λh3=>?_) (λh3=>?_))
 ·have A:=R (by omega);have T:=A.2.1;have b:=b (by omega);have a4:=A.2.2.1 (by omega);refine rld (B:=o) (v:=.int .i64 d.q.frm) (by rw [<-t];rfl) (rld (B:=o) (v:=.int .i64 d.q.to) (by rw [<-K];rfl) ?_);refine rbs [d.q.frm,d.q.to] rfl (vs:=[_,_]) rfl rfl (by decide) λb7 U W X=>?_;have s7:Stp w6 U:=⟨W.ext⟩;refine rcall (zEu X (by omega) (by omega)) ?_;rintro _ w8 ⟨rfl,e8⟩;have l3:=nb5 (n:=d.q.frm) (by omega);have l4:=nb5 (n:=d.q.to) (by omega);refine rsadd (by simp only [zAd,Qb];omega) ?_
  have C:(⟨(numB d.id.toNat++numB d.kind.toNat).toArray⟩:ByteArray)++⟨(numB d.q.frm.toNat++numB d.q.to.toNat).toArray⟩=⟨(encRq d).toArray⟩:=by
   rw [zAB];unfold encRq encQ;rw [if_neg (by omega),if_neg (by omega),Qp]
  exact⟨.inl ⟨hd,congrArg (λz:ByteArray=>Value.tuple #[.string z,.int .i64 0]) C⟩,stp⟩
 refine rld (B:=r) (v:=.int .i64 d.kind) (by rw [<-J];rfl) (ite (λG=>?_) (λG=>?_))
 ·have C:numB d.id.toNat++numB d.kind.toNat=encRq d:=by
   unfold encRq encQ;rw [if_pos G,QE]
  exact⟨.inl ⟨hd,congrArg (λz=>Value.tuple #[txt z,.int .i64 0]) C⟩,stp⟩
 have Y:d.kind=3:=by omega
 have A:=R G;have b:=b G;have T:=A.2.1;have H:=A.2.2.2 (by omega);refine rld (B:=o) (v:=.int .i64 d.q.frm) (by rw [<-t];rfl) (rld (B:=o) (v:=.slice x.q.words.a x.q.words.n x.q.words.c) rfl ?_);refine rbs [d.q.frm,(x.q.words.n:Int)] rfl (vs:=[_,_]) rfl rfl (by decide) λb7 U W X=>?_;have s7:Stp w6 U:=⟨W.ext⟩;refine rcall (zEu X (by omega) (by omega)) ?_;rintro _ w8 ⟨rfl,e8⟩;have l3:=nb5 (n:=d.q.frm) (by omega);have l4:=nb5 (n:=(x.q.words.n:Int)) (by omega)
 have Z:∀k,((d.q.words.take k).flatMap textB).length<=8*17:=λk=>by
  have h:=zDg (f:=textB) (m:=17) (l:=d.q.words.take k) λs I=>by
   have h1:=(H.2.2.2 s (Vu I)).2.2;have a5:s.data.toList.length=s.size:=Vc;have:=zAm (n:=s.size) (by omega);unfold textB;rw [Qb];omega
  have h8:(d.q.words.take k).length*17<=8*17:=Ji _ (by rw [Qm];omega);omega
 refine rsadd (by simp only [zAd,Qb];omega) ?_;have⟨P,hP⟩:∃P,P=numB d.id.toNat++numB d.kind.toNat++(numB d.q.frm.toNat++numB ((x.q.words.n:Int)).toNat):=⟨_,rfl⟩;have a6:P.length<=20:=by rw [hP];simp only [Qb];omega
 have h0:(⟨(numB d.id.toNat++numB d.kind.toNat).toArray⟩:ByteArray)++⟨(numB d.q.frm.toNat++numB ((x.q.words.n:Int)).toNat).toArray⟩=⟨(P++(d.q.words.take 0).flatMap textB).toArray⟩:=by rw [zAB,hP];simp
 refine cnt1 TBok 7 [] 5 6 d.q.words.length (λk v u=>v=txt (P++(d.q.words.take k).flatMap textB)/\Stp w8 u) rfl rfl ⟨congrArg Value.string h0,stp⟩ ?_;rintro k _ gf u hk ⟨rfl,e⟩;have a7:=Z k;refine rld (B:=o) (v:=.slice x.q.words.a x.q.words.n x.q.words.c) rfl (ite (λhlt=>?_) (λa8=>?_))
 ·have p:k<d.q.words.length:=by omega
  have a9:=(H.2.2.2 _ (Qa p)).2.2;have b0:=zJc (s:=d.q.words[k]) (by omega);refine rld (B:=o) (v:=.slice x.q.words.a x.q.words.n x.q.words.c) rfl (rix (Q.ws.up (w':=u)) (x:=d.q.words[k]) (by simp) λb9 o9 A9=>rload1 (A9.cell0 rfl) (rcall (zGq (s:=d.q.words[k]) (by omega)) ?_));rintro _ u1 ⟨rfl,e1⟩;refine rsadd (by simp only [zAd,Qb];omega) ?_
  have h1:(⟨(P++(d.q.words.take k).flatMap textB).toArray⟩:ByteArray)++⟨(textB d.q.words[k]).toArray⟩=⟨(P++(d.q.words.take (k+1)).flatMap textB).toArray⟩:=by
   rw [zAB,take_add p,Jl];simp
  exact rA ⟨rfl,p,congrArg Value.string h1,stp⟩
 ·refine rld (B:=o) (v:=.int .i64 d.q.rad) (by rw [<-M];rfl) (rld (B:=o) (v:=.int .i64 d.q.most) (by rw [<-O];rfl) ?_);refine rbs [d.q.rad,d.q.most] rfl (vs:=[_,_]) rfl rfl (by decide) λb9 w9 n9 S9=>?_;have s9:Stp u w9:=⟨n9.ext⟩;refine rcall (zEu S9 (by omega) (by omega)) ?_;rintro _ b3 ⟨rfl,b4⟩;have l5:=nb5 (n:=d.q.rad) (by omega);have l6:=nb5 (n:=d.q.most) (by omega);refine rsadd (by simp only [zAd,Qb];omega) ?_;have a0:d.q.words.take k=d.q.words:=Qj (by omega)
  have C:(⟨(P++(d.q.words.take k).flatMap textB).toArray⟩:ByteArray)++⟨(numB d.q.rad.toNat++numB d.q.most.toNat).toArray⟩=⟨(encRq d).toArray⟩:=by
   rw [zAB,a0,hP];unfold encRq encQ wdsB;rw [if_neg G,if_pos Y,L];simp
  exact⟨.inl ⟨hd,congrArg (λz:ByteArray=>Value.tuple #[.string z,.int .i64 0]) C⟩,stp⟩
abbrev RdC (w:World) (b:Nat) (p r:List UInt8) (bad:Bool):Prop:=Bk w b [txt (p++r),.int .i64 (p.length:Nat),.bool bad] 217
def Cut (p r:List UInt8) (bad:Bool) (n:Nat) (p' r':List UInt8) (bad':Bool):Prop:=
 p'++r'=p++r/\n<=2147483647/\((r=numB n++r'/\bad'=bad)\/(bad'=true/\∀(m:Nat) (t:List UInt8),m<=2147483647->r≠numB m++t))
theorem zAQ{p r:List UInt8}{d:Bool}{b:Nat}{w:World}(B:RdC w b p r d)(G:p.length+r.length<=1000000000):
  Sp PP 129 #[.pointer (some ⟨b,0,none⟩)] w λv w'=>∃n y z c,v=.int .i64 ((n:Nat):Int)/\RdC w' b y z c/\Cut p r d n y z c/\Fr (λi=>i=b) w w':=
 (zGc B (by rw [Qb];omega)).mono λv w' ⟨h,f⟩=>by
  rcases h with ⟨A,n,e,C,rfl,B'⟩|⟨l,rfl,B'⟩
  ·have o:p.length=A:=Int.ofNat_inj.1 e;obtain rfl:=o;have o:=zKH.1 C;obtain⟨x,t,rfl⟩:=o;refine⟨n,p++numB n,t,d,rfl,?_,⟨by simp,x,.inl ⟨rfl,rfl⟩⟩,f⟩;unfold RdC;rw [Qb,Qp];exact B'
  ·exact⟨0,p,r,true,rfl,B',⟨rfl,by decide,.inr ⟨rfl,λm t x E=>l _ m rfl (zKH.2 ⟨x,t,E⟩)⟩⟩,f⟩
def CutT (p r:List UInt8) (bad:Bool) (x:List UInt8) (p' r':List UInt8) (bad':Bool):Prop:=
 p'++r'=p++r/\x.length<=4000/\((r=(numB x.length++x)++r'/\bad'=bad)\/(bad'=true/\rdT r=none))
theorem zPT{r t x:List UInt8}(h:rdT r=some (x,t)):x.length<=4000:=zI2 h
theorem zLh{p r:List UInt8}{c:Bool}{b:Nat}{w:World}(B:RdC w b p r c)(W:p.length+r.length<=1000000000):
  Sp PP 130 #[.pointer (some ⟨b,0,none⟩)] w λv w'=>∃x I J d,v=txt x/\RdC w' b I J d/\CutT p r c x I J d/\Fr (λi=>i=b) w w':=by
 refine eN ?_;refine dQ 16 λX Y=>tX B rfl nf (tX B rfl nf (rcall (zDs (s:=p++r) (A:=p.length) (by rw [Qb];omega)) ?_));rintro v f ⟨⟨x,h,⟨Z,y⟩,rfl⟩|⟨l,rfl⟩,K⟩
 ·refine⟨K.e,?_⟩;rw [V0] at y;have O:=zPT y;have z:=zFC y
  have C:h=(p++(numB x.length++x)).length:=by
   have L:=congrArg List.length z;have h2:(p++r).length=p.length+r.length:=Qb;have Q:(p++(numB x.length++x)).length=p.length+(numB x.length++x).length:=Qb;have M:((numB x.length++x)++(p++r).drop h).length=(numB x.length++x).length+((p++r).length - h):=by rw [@List.length_append _ (numB x.length++x),QR]
   have R:=L.trans M;clear L M;rw [Q];generalize (numB x.length++x).length=N at R ⊢;generalize (p++r).length=T at *;omega
  have o:(p++(numB x.length++x))++(p++r).drop h=p++r:=by rw [Qp,<-z]
  have t:=Bk.mv B (w:=f);have E:Fr (λi=>i=b) w f:=fE w f;refine rX t rfl ?_;cases c
  all_goals
   refine rS t [.bool _] (zAj _) λS G H=>rS G [.int .i64 _] (zAa _) λu4 U V=>?_;refine⟨x,p++(numB x.length++x),(p++r).drop h,_,rfl,?_,⟨o,O,.inl ⟨z,rfl⟩⟩,(E.trans H).trans V⟩;unfold RdC;rw [o,<-C];exact U
 ·refine⟨K.e,?_⟩;rw [V0] at l;have t:=Bk.mv B (w:=f);have E:Fr (λi=>i=b) w f:=fE w f;refine rX t rfl ?_;cases c
  all_goals
   refine rS t [.bool _] (zAj _) λS G H=>?_;exact⟨[],p,r,true,rfl,G,⟨rfl,by simp,.inr ⟨rfl,l⟩⟩,E.trans H⟩
def KsR (s:List UInt8) (bad:Bool) (k:RqD->Prop):Prop:=∀d,RqIs d->s=encRq d->bad=false/\k d
theorem KsR.mono{b:Bool}{k e:RqD->Prop}(h:KsR s b k)(l:∀d,RqIs d->k d->e d):KsR s b e:=λd c f=>⟨(h d c f).1,l d c (h d c f).2⟩
theorem KsR.step{p r A w:List UInt8}{f b:Bool}{k x:RqD->Prop}(h:KsR s f k)(c:Cut p r f n A w b)(m:RqD->Nat)(t:RqD->List UInt8)(C:∀d,RqIs d->k d->r=numB (m d)++t d/\m d<=2147483647)
  (E:∀d,RqIs d->k d->n=m d->w=t d->x d):KsR s b x:=by
 intro d e F;have l:=h d e F;obtain⟨G,y⟩:=l;have l:=C d e y;obtain⟨z,H⟩:=l;have l:=c.2.2;rcases l with ⟨o,v⟩|⟨_,v⟩
 ·rw [z] at o;exact⟨v.trans G,E d e y (zGW o).1.symm (zGW o).2.symm⟩
 ·exact(v _ _ H z).elim
theorem KsR.text{p r F l x:List UInt8}{o e:Bool}{k y:RqD->Prop}(h:KsR s o k)(c:CutT p r o x F l e)(m:RqD->ByteArray)(t:RqD->List UInt8)(G:∀d,RqIs d->k d->r=textB (m d)++t d/\(m d).size<=4000)
  (H:∀d,RqIs d->k d->bsOf x=m d->l=t d->y d):KsR s e y:=by
 intro d f I;have v:=h d f I;obtain⟨J,z⟩:=v;have v:=G d f z;obtain⟨K,L⟩:=v;have b:=zIg L (t d);rw [<-K] at b;have v:=c.2.2;rcases v with ⟨M,w⟩|⟨_,w⟩
 ·have A:(bsOf x).size=x.length:=zAd x;have C:=zIg (s:=bsOf x) (by rw [A];exact c.2.1) l
  have O:textB (bsOf x)++l=r:=by
   rw [M];unfold textB;rw [A];rfl
  rw [O,b] at C;have E:=QL C;have Q:(m d).data.toList=x:=congrArg Prod.fst E;have R:t d=l:=congrArg Prod.snd E;exact⟨w.trans J,H d f z (by rw [<-Q,bsOf_data]) R.symm⟩
 ·rw [b] at w;cases w
theorem zN0{w:World}(d:s.length<=4611686018427387904):Sp PP 66 #[txt s] w λv w'=>((∃n:Nat,idOf s=some n/\v=.tuple #[.int .i64 (n:Int),.bool true])\/(idOf s=none/\v=.tuple #[.int .i64 0,.bool false]))/\Stp w w':=by
 refine eN ?_;refine rcall (zAs (A:=0) d) ?_;rintro _ w1 ⟨⟨n,e,⟨_,c⟩,rfl⟩|⟨b,rfl⟩,f⟩
 ·rw [Jf] at c;exact⟨.inl ⟨n,by unfold idOf;rw [c];rfl,rfl⟩,stp⟩
 ·rw [Jf] at b;exact⟨.inr ⟨by unfold idOf;rw [b];rfl,rfl⟩,stp⟩
theorem RqO.upR{w:World}[Le w w']{x:RReq}{d:RqD}(h:RqO B w x d):RqO B w' x d:=by
 obtain⟨b,c,e,f,l,o,p,r⟩:=h;exact⟨b,c,e,f,l,o.up,p,r⟩
theorem RqO.frcR{w:World}{x:RReq}{d:RqD}{b:Nat}{cs:List Value}{e:TypeId}(h:RqO B w x d)(f:Fr (λi=>i=b) w w')(k:Bk w b cs e)(c:9≠e):RqO B w' x d:=by
 obtain⟨l,o,p,r,t,v,y,z⟩:=h;exact⟨l,o,p,r,t,v.frc f k c,y,z⟩
def restQ (d:RqD):List UInt8:=if d.kind=3 then wdsB d.q.words++(numB d.q.rad.toNat++numB d.q.most.toNat) else numB d.q.to.toNat
theorem zG2(h:∀d,RqIs d->s=encRq d->False):reqOf s=none:=by
 cases e:reqOf s with
 |none=>rfl
 |some d=>exact(h d (zIk.1 e).1 (zIk.1 e).2).elim
theorem zGa{w:World}(U:s.length<=1000000):Sp PP 65 #[txt s] w λv w'=>GetReq s w.heap.size v w'/\Stp w w':=by
 refine eN ?_;refine ral λbz w1 n1 z1=>?_;have h0:=n1.b;have h1:=n1.s;refine rbuild (cs:=[txt s,.int .i64 0,.bool false]) rfl (rbx λbr w2 n2 B2=>?_);have h2:=n2.b;have h4:=n2.s;have R2:RdC w2 br [] s false:=B2;clear B2;have L:∀i,i=br->w.heap.size<=i:=by omega
 have b1:∀i,i=bz->w.heap.size<=i:=by omega
 have M:¬bz=br:=by omega
 have K0:KsR s false λd=>s=numB d.id.toNat++(numB d.kind.toNat++encQ d):=λd c he=>⟨rfl,he⟩;have Z2:Bk w2 bz (enc zRq) 55:=z1.mv;clear z1;refine rcall (zAQ R2 (by simp;omega)) ?_;rintro _ w3 ⟨z,p3,r3,c7,rfl,R3,c3,f3⟩
 have c9:∀d,RqIs d->0<=d.kind/\d.kind<=4:=λd h=>by
  by_cases A:d.kind=4
  ·omega
  ·have:=(h.1.resolve_left A).1;have:=(h.1.resolve_left A).2.1;omega
 have K1:KsR s c7 λd=>d.id=(z:Int)/\r3=numB d.kind.toNat++encQ d:=
  K0.step c3 (λd=>d.id.toNat) (λd=>numB d.kind.toNat++encQ d) (λd c h=>⟨h,by have:=c.2.1;omega⟩) λd c _ O H=>⟨by have:=c.2.1;omega,H⟩
 have l3:p3.length+r3.length=s.length:=by have:=congrArg List.length c3.1;simpa using this
 have s3:Stp w w3:=⟨Fr.st Le.e f3 L⟩;have Z3:=Z2.fr f3 M;refine rcall (zAQ R3 (by omega)) ?_;rintro _ w4 ⟨f,p4,r4,b5,rfl,R4,c4,f4⟩
 have K2:KsR s b5 λd=>d.id=(z:Int)/\d.kind=(f:Int)/\r4=encQ d:=
  K1.step c4 (λd=>d.kind.toNat) (λd=>encQ d) (λd c h=>⟨h.2,by have:=c9 d c;omega⟩) λd c h O H=>⟨h.1,by have:=c9 d c;omega,H⟩
 have l4:p4.length+r4.length=s.length:=by have:=congrArg List.length c4.1;simp only [Qb] at this;omega
 have s4:Stp w w4:=⟨Fr.st s3.e f4 L⟩;have Z4:=Z3.fr f4 M;have h7:=s4.e.size;refine rbuild (cs:=enc (⟨z,f,⟨0,0,0,⟨none,0,0⟩,0,0⟩⟩:RReq)) rfl (ral λbx w5 n5 z5=>?_);have h8:=n5.b;have W:∀i,i=bx->w.heap.size<=i:=by omega
 have zr:=Bk.lt R4;have zz:=Z4.lt;have X:¬bx=br:=by omega
 have Y:¬br=bx:=by omega
 have Z:¬bz=bx:=by omega
 refine rE z5 (⟨z,f,⟨0,0,0,⟨none,0,0⟩,0,0⟩⟩:RReq) λw6 X6 f6=>?_;have X6:Bk w6 bx (enc (⟨z,f,⟨0,0,0,⟨none,0,0⟩,0,0⟩⟩:RReq)) 55:=X6;clear z5;have h9:Stp w4 w6:=n5.st f6;have s6:Stp w w6:=⟨lE w w6⟩;have R6:=Bk.mv R4 (w:=w6);have Z6:=Z4.mv (w:=w6);refine ite (λha=>?pa) (λha=>?pb)
 case' pa=>refine ite (λhb=>?pc) (λhb=>?pd)
 case' pb =>
  refine iF (by omega) (iF (by omega) (iF (by omega) ?_));have e0:¬(1<=f/\f<=3):=by omega
 case' pd =>
  refine iF (by omega) (iF (by omega) (iF (by omega) ?_));have e0:¬(1<=f/\f<=3):=by omega
 case' pb|pd =>
  have G:∃I:RReq,I=⟨z,f,⟨0,0,0,⟨none,0,0⟩,0,0⟩⟩:=⟨_,rfl⟩;obtain⟨I,Q⟩:=G;have G:∃dd:RqD,dd=⟨z,f,zQy⟩:=⟨_,rfl⟩;obtain⟨dd,t⟩:=G;have G:∃q,q=b5:=⟨_,rfl⟩;obtain⟨o,y⟩:=G;have XX:Bk w6 bx (enc I) 55:=by rw [Q];exact X6
  have ZZ:=Z6;have RR:RdC w6 br p4 r4 o:=by rw [y];exact R6
  have OO:RqO w.heap.size w6 I dd:=by rw [Q,t];exact⟨rfl,rfl,rfl,rfl,rfl,Own.nil _ _ _,rfl,rfl⟩
  have hl:dd.q.words.length<=1000000:=by rw [t];simp [zQy]
  have a5:∀s∈dd.q.words,s.size<=1000000:=by rw [t];intro s U;simp [zQy] at U
  have KK:KsR s o λd=>d=dd:=by
   rw [y];refine K2.mono λd c h=>?_
   have A:d.kind=4:=Classical.byContradiction λA=>by
    have h5:=(c.1.resolve_left A).1;have h6:=(c.1.resolve_left A).2.1;omega
   have hz:=c.2.2;rw [if_pos A] at hz;obtain⟨i,k,q⟩:=d;dsimp only at h hz;rw [t,<-h.1,<-h.2.1,hz]
 case' pc =>
  refine rS X6 [.int .i64 (f:Int)] (zAa _) λw7 X7 f7=>?_;have X7:Bk w7 bx (enc (⟨z,f,⟨f,0,0,⟨none,0,0⟩,0,0⟩⟩:RReq)) 55:=X7;have s7:Stp w w7:=⟨Fr.st s6.e f7 W⟩;have R7:=Bk.fr R6 f7 Y;have Z7:=Z6.fr f7 Z;refine rcall (zAQ R7 (by omega)) ?_;rintro _ w8 ⟨l,p8,r8,d0,rfl,R8,c8,f8⟩;have l8:p8.length+r8.length=s.length:=by have:=congrArg List.length c8.1;simp only [Qb] at this;omega
  have K3:KsR s d0 λd=>d.id=(z:Int)/\d.kind=(f:Int)/\d.q.frm=(l:Int)/\r8=restQ d:=by
   refine K2.step c8 (λd=>d.q.frm.toNat) (λd=>restQ d) (λd c h=>?_) λd c h O H=>?_
   ·have A:¬d.kind=4:=by omega
    have h5:=(c.1.resolve_left A).2.2.1;refine⟨?_,by omega⟩;rw [h.2.2];unfold encQ restQ;rw [if_neg A];split <;> rfl
   ·have A:¬d.kind=4:=by omega
    have h5:=(c.1.resolve_left A).2.2.1;exact⟨h.1,h.2.1,by omega,H⟩
  have s8:Stp w w8:=⟨Fr.st s7.e f8 L⟩;have X8:=X7.fr f8 X;have Z8:=Z7.fr f8 M;refine rS X8 [.int .i64 (l:Int)] (zAa _) λw9 X9 f9=>?_;have X9:Bk w9 bx (enc (⟨z,f,⟨f,l,0,⟨none,0,0⟩,0,0⟩⟩:RReq)) 55:=X9;have s9:Stp w w9:=⟨Fr.st s8.e f9 W⟩;have R9:=Bk.fr R8 f9 Y;have K:=Z8.fr f9 Z;refine ite (λhe=>?pe) (λhe=>?pf)
  case' pf=>refine ite (λhf=>?pg) (λhf=>?ph)
  case' pe=>have d1:(f:Int)=1\/(f:Int)=2:=.inl he
  case' pg=>have d1:(f:Int)=1\/(f:Int)=2:=.inr hf
  case' pe|pg =>
   refine rcall (zAQ R9 (by omega)) ?_;rintro _ b7 ⟨a6,a7,a0,C,rfl,b8,a8,S⟩;have d2:a7.length+a0.length=s.length:=by have:=congrArg List.length a8.1;simp only [Qb] at this;omega
   have e1:KsR s C λd=>d.id=(z:Int)/\d.kind=(f:Int)/\d.q.frm=(l:Int)/\d.q.to=(a6:Int):=by
    refine K3.step a8 (λd=>d.q.to.toNat) (λd=>[]) (λd c h=>?_) λd c h O H=>?_
    ·have A:¬d.kind=4:=by omega
     have h6:=(c.1.resolve_left A).1;have h5:=(c.1.resolve_left A).2.2.2.1 (by omega);refine⟨?_,by omega⟩;rw [h.2.2.2];unfold restQ;rw [if_neg (by omega),QE]
    ·have A:¬d.kind=4:=by omega
     have h6:=(c.1.resolve_left A).1;have h5:=(c.1.resolve_left A).2.2.2.1 (by omega);exact⟨h.1,h.2.1,h.2.2.1,by omega⟩
   have b9:Stp w b7:=⟨Fr.st s9.e S L⟩;have c0:=X9.fr S X;have c2:=K.fr S M;refine rS c0 [.int .i64 (a6:Int)] (zAa _) λa9 c5 c6=>?_;have c5:Bk a9 bx (enc (⟨z,f,⟨f,l,a6,⟨none,0,0⟩,0,0⟩⟩:RReq)) 55:=c5;have i0:Stp w a9:=⟨Fr.st b9.e c6 W⟩;have e2:=Bk.fr b8 c6 Y;have e3:=c2.fr c6 Z;refine iF (by omega) ?_;have G:∃I:RReq,I=⟨z,f,⟨f,l,a6,⟨none,0,0⟩,0,0⟩⟩:=⟨_,rfl⟩;obtain⟨I,Q⟩:=G;have G:∃dd:RqD,dd=⟨z,f,⟨f,l,a6,[],0,0⟩⟩:=⟨_,rfl⟩;obtain⟨dd,t⟩:=G;have G:∃q,q=C:=⟨_,rfl⟩;obtain⟨o,y⟩:=G;have XX:Bk a9 bx (enc I) 55:=by rw [Q];exact c5
   have ZZ:=e3;have RR:RdC a9 br a7 a0 o:=by rw [y];exact e2
   have OO:RqO w.heap.size a9 I dd:=by rw [Q,t];exact⟨rfl,rfl,rfl,rfl,rfl,Own.nil _ _ _,rfl,rfl⟩
   have hl:dd.q.words.length<=1000000:=by rw [t];simp
   have a5:∀s∈dd.q.words,s.size<=1000000:=by rw [t];intro s U;simp at U
   have KK:KsR s o λd=>d=dd:=by
    rw [y];refine e1.mono λd c h=>?_;have A:¬d.kind=4:=by omega
    have h6:=(c.1.resolve_left A).1;have hz:=c.2.2;rw [if_neg A,if_neg (by omega)] at hz;obtain⟨i,k,⟨q1,q2,q3,q4,q5,q6⟩⟩:=d;dsimp only at h hz h6;rw [t,<-h.1,<-h.2.1,<-h.2.2.1,<-h.2.2.2,hz.1,hz.2.1,hz.2.2,h6]
  case' ph =>
   have d3:(f:Int)=3:=by omega
   refine iT d3 (rcall (zAQ R9 (by omega)) ?_);rintro _ b7 ⟨N,a7,a0,C,rfl,b8,a8,S⟩;have d2:a7.length+a0.length=s.length:=by have:=congrArg List.length a8.1;simp only [Qb] at this;omega
   have R:∀d,RqIs d->d.kind=(f:Int)->d.q.kind=3/\d.q.to=0/\(d.q.words.length<=8/\(0<=d.q.rad/\d.q.rad<=200)/\(1<=d.q.most/\d.q.most<=100)/\∀s∈d.q.words,s.size<=12):=λd c h=>by
    have A:¬d.kind=4:=by omega
    have h6:=(c.1.resolve_left A).1;have T:=(c.1.resolve_left A).2.2.2.2 (by omega);have hz:=c.2.2;rw [if_neg A,if_pos (by omega)] at hz;exact⟨by omega,hz,T.1.2,T.2.1,T.2.2.1,λs U=>(T.2.2.2 s U).2.2⟩
   have K4:KsR s C λd=>(d.id=(z:Int)/\d.kind=(f:Int)/\d.q.frm=(l:Int))/\d.q.words.length=N/\d.q.words.take 0=[]/\a0=(d.q.words.drop 0).flatMap textB++(numB d.q.rad.toNat++numB d.q.most.toNat):=by
    refine K3.step a8 (λd=>d.q.words.length) (λd=>d.q.words.flatMap textB++(numB d.q.rad.toNat++numB d.q.most.toNat)) (λd c h=>?_) λd c h O H=>?_
    ·have T:=R d c h.2.1;refine⟨?_,by omega⟩;rw [h.2.2.2];unfold restQ wdsB;rw [if_pos (by omega),Qp]
    ·exact⟨⟨h.1,h.2.1,h.2.2.1⟩,O.symm,rfl,H⟩
   have b9:Stp w b7:=⟨Fr.st s9.e S L⟩;have c0:=X9.fr S X;have c2:=K.fr S M
   refine cnt TBok 10 [] 9 8 (λk u=>∃(J:List ByteArray) (p r:List UInt8) (b2:Bool) (oa:Option Addr) (oc:Nat),J.length=k/\RdC u br p r b2/\p.length+r.length=s.length/\Bk u bx (enc (⟨z,f,⟨f,l,0,⟨oa,J.length,oc⟩,0,0⟩⟩:RReq)) 55/\Bk u bz (enc zRq) 55 /\
     Own w.heap.size 9 u (.slice oa J.length oc) J/\Stp w u/\(∀s∈J,s.size<=4000)/\KsR s b2 λd=>(d.id=(z:Int)/\d.kind=(f:Int)/\d.q.frm=(l:Int))/\d.q.words.length=N/\d.q.words.take k=J/\r=(d.q.words.drop k).flatMap textB++(numB d.q.rad.toNat++numB d.q.most.toNat)) rfl rfl
    ⟨[],a7,a0,C,none,0,rfl,b8,d2,c0,c2,Own.nil _ _ _,b9,by simp,K4⟩ ?_
   rintro k gf u hk ⟨J,p,r,b2,oa,oc,e4,Ru,lu,Xu,Zu,Ou,su,d4,Ku⟩;refine ite (λhlt=>?qa) (λi1=>?qb)
   case' qa=>refine ite (λg8=>?qc) (λg9=>?qd)
   case qc =>
    refine rcall (zLh Ru (by omega)) ?_;rintro _ u1 ⟨x,p1,r1,V,rfl,R1,c1,f1⟩;have e5:(bsOf x).size=x.length:=zAd x
    have K5:KsR s V λd=>(d.id=(z:Int)/\d.kind=(f:Int)/\d.q.frm=(l:Int))/\d.q.words.length=N/\d.q.words.take (k+1)=J++[bsOf x]/\r1=(d.q.words.drop (k+1)).flatMap textB++(numB d.q.rad.toNat++numB d.q.most.toNat):=by
     refine Ku.text c1 (λd=>d.q.words[k]?.getD (bsOf [])) (λd=>(d.q.words.drop (k+1)).flatMap textB++(numB d.q.rad.toNat++numB d.q.most.toNat)) (λd c h=>?_) λd c h O H=>?_
     ·have a1:k<d.q.words.length:=by omega
      have T:=(R d c h.1.2.1).2.2.2.2.2 _ (Qa a1);rw [Qd a1];refine⟨?_,by show (d.q.words[k]).size<=4000;omega⟩;rw [h.2.2.2,JS a1,JV,Qp];rfl
     ·have a1:k<d.q.words.length:=by omega
      rw [Qd a1] at O;refine⟨h.1,h.2.1,?_,H⟩;rw [take_add a1,h.2.2.1,O];rfl
    have d5:p1.length+r1.length=s.length:=by have:=congrArg List.length c1.1;simp only [Qb] at this;omega
    have d6:Stp w u1:=⟨Fr.st su.e f1 L⟩;have X1:=Xu.fr f1 X;have Z1:=Zu.fr f1 M;have O1:=Ou.frc f1 Ru (by decide);refine rld (B:=X1) (v:=.slice oa J.length oc) rfl (rbs1 (bsOf x) rfl rfl (by decide) λb6 u4 e6 _ S6=>rapp1 (u:=w) ⟨rfl,rfl⟩ (O1.up (w':=u4)) S6 (by omega) λv7 u5 O7 f7 s7=>?_);have X5:=(X1.mv (w:=u4)).fro (O1.up (w':=u4)) f7 (by decide);have Z5:=(Z1.mv (w:=u4)).fro (O1.up (w':=u4)) f7 (by decide);have R5:=(Bk.mv R1 (w:=u4)).fro (O1.up (w':=u4)) f7 (by decide);have G:=O7.shape;obtain⟨na,nc,rfl⟩:=G;refine rS X5 [.slice na (J++[bsOf x]).length nc] (sv1 _ _ _) λu6 e7 f8=>?_
    exact rA ⟨rfl,by omega,J++[bsOf x],p1,r1,V,na,nc,by simp [e4],Bk.fr R5 f8 Y,d5,e7,Z5.fr f8 Z,O7.frc f8 X5 (by decide),⟨Fr.st (lE w u5) f8 W⟩,λs U=>by
     have G:=Qf.1 U;rcases G with U|U
     ·exact d4 s U
     ·rw [Qc.1 U,e5];exact c1.2.1,K5⟩
   case' qb|qd =>
    have K6:KsR s b2 λd=>(d.id=(z:Int)/\d.kind=(f:Int)/\d.q.frm=(l:Int))/\d.q.words=J/\r=numB d.q.rad.toNat++numB d.q.most.toNat:=Ku.mono λd c h=>by
     have T:=(R d c h.1.2.1).2.2.1;have d7:d.q.words.length<=k:=by omega
     refine⟨h.1,?_,?_⟩
     ·rw [<-h.2.2.1,Qj d7]
     ·rw [h.2.2.2,XF d7];rfl
    refine rcall (zAQ Ru (by omega)) ?_;rintro _ u1 ⟨m1,p1,r1,V,rfl,R1,c1,f1⟩
    have K7:KsR s V λd=>((d.id=(z:Int)/\d.kind=(f:Int)/\d.q.frm=(l:Int))/\d.q.words=J)/\d.q.rad=(m1:Int)/\r1=numB d.q.most.toNat:=by
     refine K6.step c1 (λd=>d.q.rad.toNat) (λd=>numB d.q.most.toNat) (λd c h=>?_) λd c h O H=>?_
     ·have T:=(R d c h.1.2.1).2.2.2.1;exact⟨h.2.2,by omega⟩
     ·have T:=(R d c h.1.2.1).2.2.2.1;exact⟨⟨h.1,h.2.1⟩,by omega,H⟩
    have d5:p1.length+r1.length=s.length:=by have:=congrArg List.length c1.1;simp only [Qb] at this;omega
    have d6:Stp w u1:=⟨Fr.st su.e f1 L⟩;have X1:=Xu.fr f1 X;have Z1:=Zu.fr f1 M;have O1:=Ou.frc f1 Ru (by decide);refine rS X1 [.int .i64 (m1:Int)] (zAa _) λu2 X2 f2=>?_;have X2:Bk u2 bx (enc (⟨z,f,⟨f,l,0,⟨oa,J.length,oc⟩,m1,0⟩⟩:RReq)) 55:=X2;have e8:Stp w u2:=⟨Fr.st d6.e f2 W⟩;have d8:=Bk.fr R1 f2 Y;have e9:=Z1.fr f2 Z;have O2:=O1.frc f2 X1 (by decide);refine rcall (zAQ d8 (by omega)) ?_;rintro _ u3 ⟨m2,f0,f5,b0,rfl,g0,g1,b3⟩
    have K8:KsR s b0 λd=>((d.id=(z:Int)/\d.kind=(f:Int)/\d.q.frm=(l:Int))/\d.q.words=J)/\d.q.rad=(m1:Int)/\d.q.most=(m2:Int):=by
     refine K7.step g1 (λd=>d.q.most.toNat) (λd=>[]) (λd c h=>?_) λd c h O H=>?_
     ·have T:=(R d c h.1.1.2.1).2.2.2.2.1;exact⟨by rw [h.2.2,QE],by omega⟩
     ·have T:=(R d c h.1.1.2.1).2.2.2.2.1;exact⟨h.1,h.2.1,by omega⟩
    have g2:Stp w u3:=⟨Fr.st e8.e b3 L⟩;have d9:=X2.fr b3 X;have g3:=e9.fr b3 M;have g4:=O2.frc b3 d8 (by decide);refine rS d9 [.int .i64 (m2:Int)] (zAa _) λu4 X4 b4=>?_;have X4:Bk u4 bx (enc (⟨z,f,⟨f,l,0,⟨oa,J.length,oc⟩,m1,m2⟩⟩:RReq)) 55:=X4;have i2:Stp w u4:=⟨Fr.st g2.e b4 W⟩;have G:∃I:RReq,I=⟨z,f,⟨f,l,0,⟨oa,J.length,oc⟩,m1,m2⟩⟩:=⟨_,rfl⟩;obtain⟨I,Q⟩:=G;have G:∃dd:RqD,dd=⟨z,f,⟨f,l,0,J,m1,m2⟩⟩:=⟨_,rfl⟩;obtain⟨dd,t⟩:=G;have G:∃q,q=b0:=⟨_,rfl⟩;obtain⟨o,y⟩:=G;have XX:Bk u4 bx (enc I) 55:=by rw [Q];exact X4
    have ZZ:=g3.fr b4 Z;have RR:RdC u4 br f0 f5 o:=by rw [y];exact Bk.fr g0 b4 Y
    have OO:RqO w.heap.size u4 I dd:=by rw [Q,t];exact⟨rfl,rfl,rfl,rfl,rfl,g4.frc b4 d9 (by decide),rfl,rfl⟩
    have hl:dd.q.words.length<=1000000:=by rw [t];show J.length<=1000000;omega
    have a5:∀s∈dd.q.words,s.size<=1000000:=by rw [t];intro s U;have:=d4 s U;omega
    have KK:KsR s o λd=>d=dd:=by
     rw [y];refine K8.mono λd c h=>?_;have T:=R d c h.1.1.2.1;obtain⟨i,k,⟨q1,q2,q3,q4,q5,q6⟩⟩:=d;dsimp only at h T;rw [t,<-h.1.1.1,<-h.1.1.2.1,<-h.1.1.2.2,<-h.1.2,<-h.2.1,<-h.2.2,T.2.1,T.1,h.1.1.2.1,d3]
 all_goals
  refine rG XX I (rcall (zGb (RqO.v OO) hl a5) ?_);rintro _ v1 ⟨⟨c,rfl⟩|⟨c,rfl⟩,i3⟩
  ·refine rX RR rfl ?_;have g5:=XX.mv (w:=v1);have a4:=ZZ.mv (w:=v1);cases o
   ·refine iF (· rfl) (rsne (λg6=>?_) (λg7=>?_))
    ·refine rbuild (cs:=enc zRq) rfl (rE a4 zRq λv2 K f9=>?_);have K:Bk v2 bz (enc zRq) 55:=K;refine rresG (B:=K) rfl ?_;exact⟨.inr ⟨zG2 λd O H=>g6 (by have h3:=(KK d O H).2;rw [<-h3,<-H]),rfl⟩,⟨Fr.st Le.e f9 b1⟩⟩
    ·refine rG g5 I (rE a4 I λv2 K f9=>?_);have K:Bk v2 bz (enc I) 55:=K;refine rresG (B:=K) rfl ?_
     have he:s=encRq dd:=by
      have:=congrArg (λb:ByteArray=>b.data.toList) g7;simpa using this.symm
     exact⟨.inl ⟨dd,I,zIk.2 ⟨c,he⟩,rfl,(RqO.upR (w':=v1) OO).frcR f9 a4 (by decide)⟩,⟨Fr.st Le.e f9 b1⟩⟩
   ·refine rbuild (cs:=enc zRq) rfl (rE a4 zRq λv2 K f9=>?_);have K:Bk v2 bz (enc zRq) 55:=K;refine rresG (B:=K) rfl ?_;exact⟨.inr ⟨zG2 λd O H=>(nomatch (KK d O H).1),rfl⟩,⟨Fr.st Le.e f9 b1⟩⟩
  ·refine rX RR rfl ?_;have a4:=ZZ.mv (w:=v1);cases o
   case' false=>refine iT (by decide) ?_
   all_goals
    refine rbuild (cs:=enc zRq) rfl (rE a4 zRq λv2 K f9=>?_);have K:Bk v2 bz (enc zRq) 55:=K;refine rresG (B:=K) rfl ?_;exact⟨.inr ⟨zG2 λd O H=>c (by have h3:=(KK d O H).2;rw [<-h3];exact O),rfl⟩,⟨Fr.st Le.e f9 b1⟩⟩
def PlaV (l:List RReq) (id:Int) (v:Value):Prop:=
 (∃k:Nat,∃hk:k<l.length,l[k].id=id/\(∀r∈l.take k,r.id≠id)/\v=.tuple #[.int .i64 (k:Int),.bool true])\/((∀r∈l,r.id≠id)/\v=.tuple #[.int .i64 0,.bool false])
theorem zFz{c:Nat}{l:List RReq}{id:Int}{w:World}(h:SlF w (.slice a n c) l)(A:l.length<=1000000):Sp PP 135 #[.slice a n c,.int .i64 id] w λv w'=>PlaV l id v/\Stp w w':=by
 have f:=h.len;obtain rfl:=f;refine eN ?_;refine cnt TBok 7 [4,5] 6 l.length (λk u=>(∀r∈l.take k,r.id≠id)/\Stp w u) rfl rfl ⟨by simp,stp⟩ ?_;rintro k g u C ⟨o,e⟩;refine ite (λhlt=>?_) (λt=>?_)
 ·have b:k<l.length:=by omega
  refine rix (h.up (w':=u)) (x:=l[k]) (by simp) λE G z=>rload1 (z.cell 0 rfl) (ite (λp=>?_) (λp=>?_))
  ·exact⟨.inl ⟨k,b,p,o,rfl⟩,stp⟩
  ·refine rA ⟨rfl,b,λy d=>?_,stp⟩;rw [take_add b] at d;have f:=Qf.1 d;rcases f with d|d
   ·exact o y d
   ·rw [Qc.1 d];exact p
 ·have f:k=l.length:=by omega
  obtain rfl:=f;rw [Qg] at o;exact⟨.inr ⟨o,rfl⟩,e⟩
theorem zNl{c:Nat}{l:List RReq}{x:RReq}{m:Int}{w:World}(h:SlF w (.slice a n c) l)(G:l.length<=100000):Sp PP 71 #[.slice a n c,.int .i64 m,agg x] w λv w' =>
  (((∃r∈l,r.id=x.id)/\v=.tuple #[.slice none 0 0,.int .i64 150])\/((∀r∈l,r.id≠x.id)/\m<=l.length/\v=.tuple #[.slice none 0 0,.int .i64 252]) \/
   ((∀r∈l,r.id≠x.id)/\l.length<m/\∃d,v=.tuple #[d,.int .i64 0]/\Own w.heap.size 55 w' d (l++[x])))/\Stp w w':=by
 have o:=h.len;obtain rfl:=o;refine eN ?_;refine rbx λH w1 n1 e=>rld (B:=e) (v:=.int .i64 x.id) rfl (rcall (zFz (id:=x.id) (h.up (w':=w1)) (by omega)) ?_);rintro _ w2 ⟨⟨k,p,b,I,rfl⟩|⟨b,rfl⟩,J⟩
 ·exact⟨.inl ⟨⟨_,Qa p,b⟩,rfl⟩,stp⟩
 refine ite (λt=>⟨.inr (.inl ⟨b,by omega,rfl⟩),stp⟩) (λt=>?_);refine rapp (u:=w2) ⟨rfl,rfl⟩ (Own.nil _ 55 _) (h.up (w':=w2)) (by simp;omega) λK L f M O=>?_;rw [Je] at f;refine rG e x (rbs1 x rfl rfl (by decide) λQ y R _ z=>rapp1 (u:=w2) ⟨rfl,rfl⟩ (f.up (w':=y)) z (by omega) λA S C T U=>?_);exact⟨.inr (.inr ⟨b,by omega,A,rfl,C.mono (lz w w2)⟩),stp⟩
def eraK {α:Type} (l:List α) (k i:Nat):List α:=if i<=k then l.take i else l.take k++(l.take i).drop (k+1)
theorem zPG{α:Type}{l:List α}(h:k<l.length):eraK l k (k+1)=eraK l k k:=by
 unfold eraK;rw [if_neg (by omega),if_pos (Qe _),XF (by rw [Qm];omega),QE]
theorem zPH{α:Type}{l:List α}(h:i<l.length)(b:i≠k):eraK l k (i+1)=eraK l k i++[l[i]]:=by
 unfold eraK;by_cases c:i<k
 ·rw [if_pos (by omega),if_pos (by omega),take_add h]
 ·rw [if_neg (by omega),if_neg (by omega),take_add h,List.drop_append_of_le_length (by rw [Qm];omega),Qp]
theorem zOA{α:Type}{l:List α}(h:k<l.length):eraK l k l.length=l.eraseIdx k:=by
 unfold eraK;rw [if_neg (by omega),Qg,Jp]
theorem zOB{α:Type}(l:List α)(k i:Nat):(eraK l k i).length<=2*l.length:=by
 unfold eraK;split
 ·rw [Qm];omega
 ·rw [Qb,Qm,QR,Qm];omega
theorem zLJ{c:Nat}{l:List RReq}{id:Int}{w:World}(h:SlF w (.slice a n c) l)(X:l.length<=100000):Sp PP 132 #[.slice a n c,.int .i64 id] w λv w' =>
  ((∃k:Nat,∃p:k<l.length,l[k].id=id/\(∀r∈l.take k,r.id≠id)/\∃f,v=.tuple #[f,.bool true]/\Own w.heap.size 55 w' f (l.eraseIdx k)) \/
   ((∀r∈l,r.id≠id)/\∃f,v=.tuple #[f,.bool false]/\Own w.heap.size 55 w' f l))/\Stp w w':=by
 have o:=h.len;obtain rfl:=o;refine eN ?_;refine rcall (zFz (id:=id) h (by omega)) ?_;rintro _ w1 ⟨⟨k,p,t,H,rfl⟩|⟨t,rfl⟩,Y⟩
 ·refine cnt1 TBok 10 [] 8 9 l.length (λi v u=>Own w.heap.size 55 u v (eraK l k i)/\Stp w u) rfl rfl ⟨Own.nil _ _ _,stp⟩ ?_;rintro i v gf u hi ⟨O,e⟩;refine ite (λhlt=>?_) (λy=>?_)
  ·have b:i<l.length:=by omega
   have I:=zOB l k i;refine ite (λJ=>?_) (λK=>?_)
   ·refine rix (h.up (w':=u)) (x:=l[i]) (by simp) λL M z=>rloadA z rfl (rbs1 l[i] rfl rfl (by decide) λQ A R _ C=>rapp1 (u:=w) ⟨rfl,rfl⟩ (O.up (w':=A)) C (by omega) λS T d U V=>?_);rw [<-zPH b (by omega)] at d;exact rA ⟨rfl,b,d,stp⟩
   ·have G:i=k:=by omega
    have d:Own w.heap.size 55 u v (eraK l k (i+1)):=by
     have W:eraK l k (i+1)=eraK l k i:=by rw [G,zPG p]
     rw [W];exact O
    exact rA ⟨rfl,b,d,e⟩
  ·have o:i=l.length:=by omega
   obtain rfl:=o;rw [zOA p] at O;exact⟨.inl ⟨k,p,t,H,v,rfl,O⟩,e⟩
 ·refine cnt1 TBok 10 [] 8 9 l.length (λi v u=>Own w.heap.size 55 u v (l.take i)/\Stp w u) rfl rfl ⟨Own.nil _ _ _,stp⟩ ?_;rintro i v gf u hi ⟨O,e⟩;refine ite (λhlt=>?_) (λy=>?_)
  ·have b:i<l.length:=by omega
   refine rix (h.up (w':=u)) (x:=l[i]) (by simp) λL M z=>rloadA z rfl (rbs1 l[i] rfl rfl (by decide) λQ A R _ C=>rapp1 (u:=w) ⟨rfl,rfl⟩ (O.up (w':=A)) C (by simp;omega) λS T d U V=>?_);rw [<-take_add b] at d;exact rA ⟨rfl,b,d,stp⟩
  ·have o:i=l.length:=by omega
   obtain rfl:=o;rw [Qg] at O;exact⟨.inr ⟨t,v,rfl,O⟩,e⟩
theorem zLI{c:Nat}{x:RReq}{l:List RReq}{w:World}(h:SlF w (.slice a n c) (x::l))(L:l.length<=100000):Sp PP 57 #[.slice a n c] w λv w'=>(∃p,v=.tuple #[agg x,p,.bool true]/\Own w.heap.size 55 w' p l)/\Stp w w':=by
 have z:=h.len;obtain rfl:=z;refine eN ?_;refine ral λr w1 n1 z1=>?_;have A:=n1.b;refine iF (by simp only [QA];omega) (rsl (some 1) none (h.up (w':=w1)) (by simp) (by simp) λM c1 C=>?_);refine rapp (u:=w1) ⟨rfl,rfl⟩ (Own.nil _ 55 _) C (by simp;omega) λt d e O Q=>?_
 have e:Own w1.heap.size 55 d t l:=by
  rw [zBx] at e;simpa using e
 refine rix (i:=0) (h.up (w':=d)) (x:=x) rfl λR S G=>rloadA G rfl ?_;have H:=z1.mv (w:=d);refine rE H x λI f y=>?_;have f:Bk I r (enc x) 55:=f;refine rresG (B:=f) rfl ?_;have J:=n1.s;have o:=lz w w1;have K:=e.fr y λb T _ hd=>by have hd:b=r:=hd;omega
 exact⟨⟨t,rfl,K.mono o⟩,⟨Fr.st (lE w d) y λi hi=>by omega⟩⟩
def AnsS (w:World) (v:Value) (p:AnP):Prop:=∃x:AnsD,v=agg x/\x.found=p.found/\x.num=p.num/\SlY 206 w (.slice x.s.a x.s.n x.s.c) p.hits
theorem zJI{w:World}{f:Bool}{d:Int}:AnsS w (agg (⟨f,d,⟨none,0,0⟩⟩:AnsD)) ⟨f,d,[]⟩:=⟨⟨f,d,⟨none,0,0⟩⟩,rfl,rfl,rfl,SlY.nil _ _⟩
def VaP (x y:StD):Prop:=x.key.dir=0/\y.key.dir=1/\y.key.v=x.key.v
def Cnd (S:List StD) (i k:Nat) (m:Int):Prop:=(∃x∈S.take i,∃y∈S,VaP x y/\m=x.d+y.d)\/(∃x,S[i]? = some x/\∃y∈S.take k,VaP x y/\m=x.d+y.d)
def Bst (C:Int->Prop) (f:Bool) (d:Int):Prop:=(f=false/\d=0/\∀m,¬C m)\/(f=true/\C d/\∀m,C m->d<=m)
theorem Bst.congr{C p:Int->Prop}{f:Bool}{d:Int}(h:Bst C f d)(e:∀m,p m↔C m):Bst p f d:=by
 rcases h with ⟨b,c,l⟩|⟨b,c,l⟩
 ·exact .inl ⟨b,c,λm o=>l m ((e m).1 o)⟩
 ·exact .inr ⟨b,(e d).2 c,λm o=>l m ((e m).1 o)⟩
theorem zOt{S:List StD}(hi:i<S.length)(m:Int):Cnd S (i+1) 0 m↔Cnd S i S.length m:=by
 unfold Cnd;rw [take_add hi,Qg];simp only [Xa,Xf,false_and,exists_false,and_false,or_false,Qd hi,JK];constructor
 ·rintro⟨x,b,h⟩;have c:=Qf.1 b;rcases c with b|b
  ·exact .inl ⟨x,b,h⟩
  ·exact .inr ⟨x,(Qc.1 b).symm,h⟩
 ·rintro(⟨x,b,h⟩|⟨x,b,h⟩)
  ·exact⟨x,QN _ b,h⟩
  ·exact⟨x,JJ _ (Qc.2 b.symm),h⟩
theorem zOu{S:List StD}(hi:i<S.length)(c:k<S.length)(m:Int):Cnd S i (k+1) m↔Cnd S i k m\/(VaP S[i] S[k]/\m=S[i].d+S[k].d):=by
 unfold Cnd;rw [take_add c,or_assoc];refine or_congr Iff.rfl ?_;simp only [Qd hi,JK];constructor
 ·rintro⟨x,rfl,y,b,h⟩;have e:=Qf.1 b;rcases e with b|b
  ·exact .inl ⟨_,rfl,y,b,h⟩
  ·rw [Qc.1 b] at h;exact .inr h
 ·rintro(⟨x,rfl,y,b,h⟩|h)
  ·exact⟨_,rfl,y,QN _ b,h⟩
  ·exact⟨_,rfl,_,JJ _ (Qc.2 rfl),h⟩
theorem zPD{S:List StD}(m:Int):Cnd S S.length 0 m↔m∈sums S:=by
 rw [zC3];unfold Cnd;rw [Qg];simp only [Xa,Xf,false_and,exists_false,and_false,or_false,VaP,and_assoc]
theorem zOo{S M:List StD}{f:Bool}{d:Int}(h:Bst (Cnd S S.length 0) f d):(f=true/\distL S M=(⟨true,d,[]⟩,true))\/(f=false/\d=0/\distL S M=(zAn,!hasDir M 0 || !hasDir M 1)):=by
 have h:=h.congr λm=>(zPD (S:=S) m).symm;rcases h with ⟨b,c,e⟩|⟨b,c,e⟩
 ·right;refine⟨b,c,?_⟩;unfold distL;rw [zIT.2 (List.eq_nil_iff_forall_not_mem.2 e)]
 ·left;refine⟨b,?_⟩;unfold distL;rw [zFn.2 ⟨c,e⟩]
abbrev ans3 (f:Bool) (d:Int):List Value:=[.bool f,.int .i64 d,.slice none 0 0]
theorem zGI(f:Bool)(d:Int):∀u∈ans3 f d,u.oneCell'=true:=by intro u b;simp at b;rcases b with rfl|rfl|rfl <;> rfl
theorem zLE{c c2:Nat}{S M:List StD}{w:World}(h:SlF w (.slice a n c) S)(h2:SlF w (.slice a2 n2 c2) M)(hn:S.length<=1000)(O:M.length<=1000000)(hd:∀x∈S,0<=x.d/\x.d<=1000):
  Sp PP 219 #[.slice a n c,.slice a2 n2 c2] w λv w'=>(∃v1,v=.tuple #[v1,.bool (distL S M).2]/\AnsS w' v1 (distL S M).1)/\Stp w w':=by
 have l:=h.len;obtain rfl:=l;refine eN ?_;refine ral λT w1 n1 z1=>ral λU w2 n2 z2=>?_;have a8:=n1.b;have a9:=n1.s;have b0:=n2.b;have b2:=n2.s;have C:Bk w2 T (ans3 false 0) 65:=Bk.mv (w:=w2) z1;have A2:Bk w2 U (ans3 false 0) 65:=z2;have V:∀i,i=U->w.heap.size<=i:=by omega
 have a0:∀i,i=T->w.heap.size<=i:=by omega
 have G:¬T=U:=by omega
 refine cnt TBok 8 [] 7 S.length (λi u=>(∃f d,Bk u U (ans3 f d) 65/\Bst (Cnd S i 0) f d/\0<=d/\d<=2000)/\Bk u T (ans3 false 0) 65/\Stp w u) rfl rfl ⟨⟨false,0,A2,.inl ⟨rfl,rfl,λm O=>by
  rcases O with ⟨x,hx,_⟩|⟨x,_,y,hy,_⟩
  ·simp at hx
  ·simp at hy⟩,by omega,by omega⟩,C,stp⟩ ?_
 clear C A2 z1 z2;rintro i gf u hi ⟨⟨f,d,A,Y,p,r⟩,R,e⟩;refine ite (λhlt=>?_) (λb3=>?_)
 case' refine_2 =>
  have l:i=S.length:=by omega
  obtain rfl:=l;have Z:=zOo (M:=M) Y;refine dD (λi=>i=T) (upF 15 0) λu1 e1=>tldG (ds:=ans3 f d) (B:=A) rfl rfl (λh=>G h.symm) (tX A rfl (λh=>G h.symm) ?_);have R1:=R.mv (w:=u1);rcases Z with ⟨rfl,Z⟩|⟨rfl,rfl,Z⟩
  ·have l:∃o,o=true:=⟨_,rfl⟩;obtain⟨o,H⟩:=l;have I:(distL S M).2=true:=by rw [Z]
   have hA:∀u,AnsS u (agg (⟨o,d,⟨none,0,0⟩⟩:AnsD)) (distL S M).1:=λu=>by rw [Z,H];exact zJI
   have l:∃J,J=u1:=⟨_,rfl⟩;obtain⟨J,K⟩:=l;refine rsto (B:=R1) (vs:=ans3 o d) (by rw [H];rfl) rfl rfl (zGI _ _) λQ C f2 _=>⟨f2,?_⟩;subst K;have C:Bk Q T (ans3 o d) 65:=C;refine rresG (B:=C) rfl ?_;exact⟨⟨agg (⟨o,d,⟨none,0,0⟩⟩:AnsD),congrArg (λb=>Value.tuple #[agg (⟨o,d,⟨none,0,0⟩⟩:AnsD),.bool b]) I.symm,hA _⟩,⟨Fr.st (lE w J) f2 a0⟩⟩
  ·have l:∃d:Int,d=0:=⟨_,rfl⟩;obtain⟨d,a1⟩:=l;have l:∃o,o=false:=⟨_,rfl⟩;obtain⟨o,H⟩:=l;have hA:∀u,AnsS u (agg (⟨o,d,⟨none,0,0⟩⟩:AnsD)) (distL S M).1:=λu=>by rw [Z,H,a1];exact zJI
   refine rcall (zHJ (d:=0) (h2.up (w':=u1)) O) ?_;rintro _ u3 ⟨rfl,e3⟩;refine⟨Fr.fr e3.e,?_⟩;cases h0:hasDir M 0
   ·have I:(distL S M).2=true:=by rw [Z,h0];rfl
    have l:∃J,J=u3:=⟨_,rfl⟩;obtain⟨J,K⟩:=l;refine rsto (B:=R1.mv (w:=u3)) (vs:=ans3 o d) (by rw [H,a1];rfl) rfl rfl (zGI _ _) λQ C f2 _=>⟨f2,?_⟩;subst K;have C:Bk Q T (ans3 o d) 65:=C;refine rresG (B:=C) rfl ?_;exact⟨⟨agg (⟨o,d,⟨none,0,0⟩⟩:AnsD),congrArg (λb=>Value.tuple #[agg (⟨o,d,⟨none,0,0⟩⟩:AnsD),.bool b]) I.symm,hA _⟩,⟨Fr.st (lE w J) f2 a0⟩⟩
   refine rcall (zHJ (d:=1) (h2.up (w':=u3)) O) ?_;rintro _ u4 ⟨rfl,e4⟩;refine⟨Fr.fr e4.e,?_⟩;cases h1:hasDir M 1
   all_goals
    have I:(distL S M).2 = !hasDir M 1:=by rw [Z,h0];rfl
    rw [h1] at I;have l:∃J,J=u4:=⟨_,rfl⟩;obtain⟨J,K⟩:=l;refine rsto (B:=R1.mv (w:=u4)) (vs:=ans3 o d) (by rw [H,a1];rfl) rfl rfl (zGI _ _) λQ C f2 _=>⟨f2,?_⟩;subst K;have C:Bk Q T (ans3 o d) 65:=C;refine rresG (B:=C) rfl ?_;exact⟨⟨agg (⟨o,d,⟨none,0,0⟩⟩:AnsD),congrArg (λb=>Value.tuple #[agg (⟨o,d,⟨none,0,0⟩⟩:AnsD),.bool b]) I.symm,hA _⟩,⟨Fr.st (lE w J) f2 a0⟩⟩
 have a4:i<S.length:=by omega
 refine cnt TBok 9 [] 8 S.length (λk u'=>(∃f d,Bk u' U (ans3 f d) 65/\Bst (Cnd S i k) f d/\0<=d/\d<=2000)/\Bk u' T (ans3 false 0) 65/\Stp w u') rfl rfl ⟨⟨f,d,A,Y,p,r⟩,R,e⟩ ?_;clear A R Y p r e;clear f d;rintro k b4 Q hk ⟨⟨f,d,A,Y,p,r⟩,R,e⟩;refine ite (λa6=>?_) (λa7=>?_)
 case' refine_2 =>
  have l:k=S.length:=by omega
  obtain rfl:=l;exact rA ⟨rfl,by omega,⟨f,d,A,Y.congr (zOt a4),p,r⟩,R,e⟩
 have t:k<S.length:=by omega
 have b5:=hd _ (Qa a4);have b6:=hd _ (Qa t);have z:=zOu a4 t;refine rix (h.up (w':=Q)) (x:=S[i]) (by simp) λb1 o1 A1=>rloadA A1 rfl (ral λbx w3 n3 z3=>rE z3 (S[i]) λw4 X4 f4=>?_);have X4:Bk w4 bx (enc S[i]) 222:=X4;have s4:Stp Q w4:=n3.st f4;refine rix (h.up (w':=w4)) (x:=S[k]) (by simp) λb1 o1 A1=>rloadA A1 rfl (ral λa5 w5 n5 z5=>rE z5 (S[k]) λw6 Y6 f6=>?_);have Y6:Bk w6 a5 (enc S[k]) 222:=Y6;have s6:Stp w4 w6:=n5.st f6;have W:=A.mv (w:=w6);have R6:=R.mv (w:=w6);have no:¬VaP S[i] S[k]->Bst (Cnd S i (k+1)) f d:=λhv=>Y.congr λm=>(z m).trans ⟨λh=>h.elim id λh=>absurd h.1 hv,.inl⟩;refine rld (B:=X4) (v:=.int .i64 S[i].key.dir) rfl (ite (λh3=>?_) (λh3=>rA ⟨rfl,t,⟨f,d,W,no λh=>h3 h.1,p,r⟩,R6,stp⟩));refine rld (B:=Y6) (v:=.int .i64 S[k].key.dir) rfl (ite (λh4=>?_) (λh4=>rA ⟨rfl,t,⟨f,d,W,no λh=>h4 h.2.1,p,r⟩,R6,stp⟩));refine rld (B:=X4) (v:=.int .i64 S[i].key.v) rfl (rld (B:=Y6) (v:=.int .i64 S[k].key.v) rfl ?_);refine ite (λh5=>?_) (λh5=>rA ⟨rfl,t,⟨f,d,W,no λh=>h5 h.2.2.symm,p,r⟩,R6,stp⟩);have hv:VaP S[i] S[k]:=⟨h3,h4,h5.symm⟩;have b7:=A.lt;have b8:=n3.lo (u:=Q);have b9:=n5.lo (u:=Q);cases f
 ·have L:Bst (Cnd S i (k+1)) true (S[i].d+S[k].d):=by
   rcases Y with ⟨_,_,h9⟩|⟨h9,_⟩
   ·refine .inr ⟨rfl,(z _).2 (.inr ⟨hv,rfl⟩),λm O=>?_⟩;have l:=(z m).1 O;rcases l with h8|h8
    ·exact absurd h8 (h9 m)
    ·omega
   ·cases h9
  refine rld (B:=W) (v:=.bool false) rfl (rS W [.bool true] (zAj _) λw7 A7 X=>?_);have A7:Bk w7 U (ans3 true d) 65:=A7;have X7:=(X4.mv (w:=w6)).fr X (by omega);have Y7:=Y6.fr X (by omega);have R7:=R6.fr X G;refine rld (B:=X7) (v:=.int .i64 S[i].d) rfl (rld (B:=Y7) (v:=.int .i64 S[k].d) rfl ?_);refine rA (rS A7 [.int .i64 (S[i].d+S[k].d)] (zAa _) λw8 A8 f8=>?_);have A8:Bk w8 U (ans3 true (S[i].d+S[k].d)) 65:=A8;have s8:Stp w w8:=⟨Fr.st (Fr.st (lE w w6) X V) f8 V⟩;exact rA ⟨rfl,t,⟨true,_,A8,L,by omega,by omega⟩,R7.fr f8 G,s8⟩
 ·have hb:Cnd S i k d/\∀m,Cnd S i k m->d<=m:=by
   rcases Y with ⟨h9,_⟩|⟨_,h9⟩
   ·cases h9
   ·exact h9
  refine rld (B:=W) (v:=.bool true) rfl (rld (B:=X4) (v:=.int .i64 S[i].d) rfl (rld (B:=Y6) (v:=.int .i64 S[k].d) rfl ?_));refine rA (rld (B:=W) (v:=.int .i64 d) rfl (ite (λh6=>?_) (λh6=>?_)))
  ·have L:Bst (Cnd S i (k+1)) true (S[i].d+S[k].d):=.inr ⟨rfl,(z _).2 (.inr ⟨hv,rfl⟩),λm O=>by
    have l:=(z m).1 O;rcases l with h8|h8
    ·have:=hb.2 m h8;omega
    ·omega⟩
   refine rS W [.bool true] (zAj _) λw7 A7 X=>?_;have A7:Bk w7 U (ans3 true d) 65:=A7;have X7:=(X4.mv (w:=w6)).fr X (by omega);have Y7:=Y6.fr X (by omega);have R7:=R6.fr X G;refine rld (B:=X7) (v:=.int .i64 S[i].d) rfl (rld (B:=Y7) (v:=.int .i64 S[k].d) rfl ?_);refine rA (rS A7 [.int .i64 (S[i].d+S[k].d)] (zAa _) λw8 A8 f8=>?_);have A8:Bk w8 U (ans3 true (S[i].d+S[k].d)) 65:=A8;have s8:Stp w w8:=⟨Fr.st (Fr.st (lE w w6) X V) f8 V⟩;exact rA ⟨rfl,t,⟨true,_,A8,L,by omega,by omega⟩,R7.fr f8 G,s8⟩
  ·exact rA ⟨rfl,t,⟨true,d,W,.inr ⟨rfl,(z _).2 (.inl hb.1),λm O=>by
    have l:=(z m).1 O;rcases l with h8|h8
    ·exact hb.2 m h8
    ·omega⟩,p,r⟩,R6,stp⟩
theorem zLj{k:Int}(h:1<=k)(l:List HitD):firstK k l=(srtH l).take k.toNat:=by
 have b:∃n:Nat,k=(n:Int):=⟨k.toNat,by omega⟩;obtain⟨n,rfl⟩:=b;unfold firstK;rw [if_neg (by omega),zGk];simp
theorem zLA{c:Nat}{l:List HitD}{k:Int}{w:World}(h:SlF w (.slice a n c) l)(f:l.length<=1000)(o:1<=k):
  Sp PP 306 #[.slice a n c,.int .i64 k] w λv w'=>(∃b d,v=.slice b (firstK k l).length d/\SlY 206 w' v (firstK k l))/\Stp w w':=
 (zKA h f).mono λv w' ⟨⟨b,d,e,y⟩,s⟩=>by
  rw [if_neg (by omega),<-zLj o] at e y;exact⟨⟨b,d,e,y⟩,s⟩
theorem zM6{pl:List Int}{S:List StD}(h:i<S.length):hitsL pl (S.take (i+1))=if S[i].key.dir=0/\S[i].key.v∈pl then hitsL pl (S.take i)++[⟨S[i].key.v,S[i].d⟩] else hitsL pl (S.take i):=by
 unfold hitsL;rw [take_add h,QV,QB];by_cases e:S[i].key.dir=0/\S[i].key.v∈pl
 ·rw [if_pos e,JL (by simp [e.1,e.2])];rfl
 ·rw [if_neg e,Jw (by simpa using e)];simp
theorem zLF{xq:RQ}{ws:List ByteArray}{ps:List RPo}{c c2:Nat}{S:List StD}{w:World}(V:QyV w xq q)(hq:QyOk q g.n)(h3:q.kind=3)(hg:GrIs g)(h:SlF w (.slice a n c) ps)(Mp:PosM w g ws ps)(T:ps.length<=100000)
  (K:SlF w (.slice a2 n2 c2) S)(a7:S.length<=1000):
  Sp PP 220 #[agg xq,.slice a n c,.slice a2 n2 c2] w λv w'=>AnsS w' v ⟨!(firstK q.most (hitsL (placesL g q.words) S)).isEmpty,0,firstK q.most (hitsL (placesL g q.words) S)⟩/\Stp w w':=by
 have o:=K.len;obtain rfl:=o;have U:=hq.near h3
 have a8:(placesL g q.words).length<=200:=by
  unfold placesL;rw [Qr];exact Qw (Qv _ _) (by rw [Vm];exact hg.ok.n2)
 refine eN ?_;refine rbx λbq w1 n1 Bq=>ral λW w2 n2 z2=>?_;have a9:=n1.b;have b0:=n1.s;have b2:=n2.b;have b3:=n2.s;have R2:Bk w2 W (ans3 false 0) 65:=z2;have X:∀i,i=W->w.heap.size<=i:=by omega
 refine rld (B:=Bq) (v:=.slice xq.words.a xq.words.n xq.words.c) rfl (rcall (zNg (h.up (w':=w2)) (Mp.up (w':=w2)) hg T (V.ws.up (w':=w2)) (by intro h0;have:=U.1;rw [h0] at this;simp at this) (by omega)) ?_);rintro _ A ⟨⟨v3,rfl,O3⟩,e3⟩;have o:=O3.shape;obtain⟨pa,pc,rfl⟩:=o;refine cnt1 TBok 11 [] 9 10 S.length (λi v u=>Own A.heap.size 206 u v (hitsL (placesL g q.words) (S.take i))/\Stp A u) rfl rfl ⟨Own.nil _ _ _,stp⟩ ?_;rintro i v gf u hi ⟨O,e⟩;have o:=O.shape;obtain⟨oa,oc,rfl⟩:=o;have Z:=zFj (placesL g q.words) (S.take i);rw [Qm] at Z;refine ite (λhlt=>?_) (λb4=>?_)
 case' refine_2 =>
  refine rld (B:=Bq) (v:=.int .i64 q.most) (by rw [<-V.most];rfl) (rcall (zLA (k:=q.most) O.sl (by omega) (by omega)) ?_);rintro _ u1 ⟨⟨C,G,rfl,Y⟩,e1⟩;have a0:S.take i=S:=Qj (by omega);have o:∃t,t=firstK q.most (hitsL (placesL g q.words) (S.take i)):=⟨_,rfl⟩;obtain⟨t,L⟩:=o;have H:t=firstK q.most (hitsL (placesL g q.words) S):=by rw [L,a0]
  refine ite (λp=>?_) (λp=>?_)
  case' refine_1 =>
   have o:∃b,b=true:=⟨_,rfl⟩;obtain⟨b,M⟩:=o;have I:b = !t.isEmpty:=by rw [M];rw [<-L] at p;cases t with|nil=>simp at p|cons x r=>rfl
  case' refine_2 =>
   have o:∃b,b=false:=⟨_,rfl⟩;obtain⟨b,M⟩:=o;have I:b = !t.isEmpty:=by rw [M];rw [<-L] at p;cases t with|nil=>rfl|cons x r=>simp at p
  all_goals
   refine rbuild (cs:=[.bool b,.int .i64 0,.slice C (firstK q.most (hitsL (placesL g q.words) (S.take i))).length G]) (by rw [M];rfl) ?_;have R3:=R2.mv (w:=u1);refine rS R3 [.bool b,.int .i64 0,.slice C (firstK q.most (hitsL (placesL g q.words) (S.take i))).length G] (by intro u hu;simp at hu;rcases hu with rfl|rfl|rfl <;> rfl) λu2 R4 f4=>?_;have R4:Bk u2 W [.bool b,.int .i64 0,.slice C (firstK q.most (hitsL (placesL g q.words) (S.take i))).length G] 65:=R4;refine rresG (B:=R4) rfl ?_
   have Y2:SlY 206 u2 (.slice C (firstK q.most (hitsL (placesL g q.words) (S.take i))).length G) (firstK q.most (hitsL (placesL g q.words) S)):=by
    rw [<-H,L]
    exact(Y.fr f4 λb' cs z _ hc hd=>by
     have hr:=R3.h;rw [<-hd] at hr;rw [hr] at hc;cases hc)
   exact⟨⟨⟨b,0,⟨C,_,G⟩⟩,rfl,by rw [I,H],rfl,Y2⟩,⟨Fr.st (lE w u1) f4 X⟩⟩
 have f:i<S.length:=by omega
 have l:=zM6 (pl:=placesL g q.words) f;have z3:=lz w A;refine rix (K.up (w':=u)) (x:=S[i]) (by simp) λb1 o1 A1=>rloadA (cs:=enc S[i].key) (A1.sub 0 3) rfl (ral λbk w5 n5 z5=>rE z5 (S[i].key) λQ y f6=>?_);have y:Bk Q bk (enc S[i].key) 209:=y;have s6:Stp u Q:=n5.st f6;have O6:=O.up (w':=Q);refine rld (B:=y) (v:=.int .i64 S[i].key.dir) rfl (ite (λp=>?_) (λp=>?_))
 case' refine_2 =>
  rw [if_neg λh=>p h.1] at l;exact rA ⟨rfl,f,by rw [l];exact O6,stp⟩
 refine rld (B:=y) (v:=.int .i64 S[i].key.v) rfl (rcall (zI1 (x:=S[i].key.v) (O3.sl.up (w':=Q)) (by omega)) ?_);rintro _ w7 ⟨⟨rfl,h6⟩|⟨rfl,h6⟩,e7⟩
 case' inr =>
  rw [if_neg λh=>h6 h.2] at l;exact rA ⟨rfl,f,by rw [l];exact O6.up,stp⟩
 rw [if_pos ⟨p,h6⟩] at l;refine dD (ownD A.heap.size (.slice oa (hitsL (placesL g q.words) (S.take i)).length oc)) (upF 12 0) λR e8=>?_;have O8:=O6.up (w':=R);refine tld (B:=y.mv (w:=R)) (v:=.int .i64 S[i].key.v) rfl ((y.mv (w:=R)).notOwn O8 (by decide)) ?_
 refine tix (K.up (w':=R)) (x:=S[i]) (by simp) λb9 o9 A9 h9=>tload1 (A9.cell 3 rfl) (λhd=>by
  obtain⟨b',h7,h8⟩:=K.lt (by intro h0;rw [h0] at f;simp at f);rw [h9] at h7;cases h7;have:=hd.1;omega) ?_
 refine tbuild (cs:=enc (⟨S[i].key.v,S[i].d⟩:HitD)) rfl (rbs1 (⟨S[i].key.v,S[i].d⟩:HitD) rfl rfl (by decide) λb5 a1 a4 _ a5=>⟨Fr.fr a4.e,?_⟩);refine rapp1 (u:=A) ⟨rfl,rfl⟩ (O8.up (w':=a1)) a5 (by omega) λb6 b7 J a6 b8=>⟨a6,?_⟩;rw [<-l] at J;exact rA ⟨rfl,f,J,stp⟩
theorem zLB{xq:RQ}{ws:List ByteArray}{ps:List RPo}{c c2 c3:Nat}{S M:List StD}{w:World}(V:QyV w xq q)(hq:QyOk q g.n)(hg:GrIs g)(h:SlF w (.slice a n c) ps)(Mp:PosM w g ws ps)(a5:ps.length<=100000)
  (h2:SlF w (.slice a2 n2 c2) S)(a1:S.length<=1000)(a6:∀x∈S,0<=x.d/\x.d<=1000)(h3:SlF w (.slice a3 n3 c3) M)(a8:M.length<=1000):
  Sp PP 122 #[agg xq,.slice a n c,.slice a2 n2 c2,.slice a3 n3 c3] w λv w'=>(∃v1,v=.tuple #[v1,.bool (doneL g q S M).2]/\AnsS w' v1 (doneL g q S M).1)/\Stp w w':=by
 have H:=h3.len;obtain rfl:=H;have H:=h2.len;obtain rfl:=H;have a9:=hq.kind;have k1:=V.kind;refine eN ?_;refine rbx λbq w1 n1 Bq=>ral λW w2 n2 z2=>?_;have b0:=n1.b;have b2:=n1.s;have b3:=n2.b;have b4:=n2.s;have R2:Bk w2 W (ans3 false 0) 65:=z2;have L:∀i,i=W->w.heap.size<=i:=by omega
 refine rld (B:=Bq) (v:=.int .i64 q.kind) (by rw [<-k1];rfl) (ite (λh4=>?_) (λh4=>?_))
 ·have o:doneL g q S M=distL S M:=if_pos h4;refine rcall (zLE (h2.up (w':=w2)) (h3.up (w':=w2)) a1 (by omega) a6) ?_;rintro _ A ⟨⟨_,rfl,⟨f,rfl,h5,C,O⟩⟩,e3⟩;have G:=R2.mv (w:=A);rw [<-o] at h5 C O;have p:(doneL g q S M).2=(distL S M).2:=by rw [o]
  have T:=h5;have U:=C;refine rE G f λQ t I=>?_;have t:Bk Q W (enc f) 65:=t;refine rresG (B:=t) rfl ?_
  have R:=O.fr I λb' cs z _ J hd=>by
   have K:=G.h;rw [<-hd] at K;rw [K] at J;cases J
  exact⟨⟨agg f,congrArg (λb=>Value.tuple #[agg f,.bool b]) p.symm,⟨f,rfl,T,U,R⟩⟩,⟨Fr.st (lE w A) I L⟩⟩
 refine rld (B:=Bq) (v:=.int .i64 q.kind) (by rw [<-k1];rfl) (ite (λh5=>?_) (λh5=>?_))
 ·have o:doneL g q S M=reachL q.to S M:=by unfold doneL;rw [if_neg h4,if_pos h5]
  refine cnt TBok 11 [9] 10 S.length (λk u=>(∀y∈S.take k,¬(y.key.dir=0/\y.key.v=q.to))/\Bk u W (ans3 false 0) 65/\Stp w1 u) rfl rfl ⟨by simp,R2,stp⟩ ?_;rintro k gf A hk ⟨hb,G,e⟩;refine ite (λhlt=>?_) (λb5=>?_)
  ·have X:k<S.length:=by omega
   have nx:¬(S[k].key.dir=0/\S[k].key.v=q.to)->∀y∈S.take (k+1),¬(y.key.dir=0/\y.key.v=q.to):=λC y Y=>by
    rw [take_add X] at Y;have H:=Qf.1 Y;rcases H with Y|Y
    ·exact hb y Y
    ·rw [Qc.1 Y];exact C
   refine dQ 18 λu5 e5=>tix (h2.up (w':=u5)) (x:=S[k]) (by simp) λb1 o1 A1 _=>tload1 (A1.cell 1 rfl) nf (ite (λC=>?_) (λC=>rA ⟨rfl,X,nx λh=>C h.1,G.mv,stp⟩));refine tix (h2.up (w':=u5)) (x:=S[k]) (by simp) λb1 o1 A1 _=>tload1 (A1.cell 2 rfl) nf (tld (B:=Bq) (v:=.int .i64 q.to) (by rw [<-V.to];rfl) nf (ite (λh7=>?_) (λh7=>rA ⟨rfl,X,nx λh=>h7 h.2,G.mv,stp⟩)));have Z:reachL q.to S M=(⟨true,0,[]⟩,true):=if_pos (Vi.2 ⟨_,Qa X,decide_eq_true ⟨C,h7⟩⟩);rw [Z] at o;have G:=G.mv (w:=u5);have H:∃A,A=u5:=⟨_,rfl⟩;obtain⟨A,a0⟩:=H;have H:∃f,f=(⟨true,0,⟨none,0,0⟩⟩:AnsD):=⟨_,rfl⟩;obtain⟨f,l⟩:=H;have p:(doneL g q S M).2=true:=by rw [o]
   have T:f.found=(doneL g q S M).1.found:=by rw [o,l]
   have U:f.num=(doneL g q S M).1.num:=by rw [o,l]
   have O:SlY 206 A (.slice f.s.a f.s.n f.s.c) (doneL g q S M).1.hits:=by rw [o,l];exact SlY.nil _ _
   subst a0;refine rbuild (cs:=enc f) (by rw [l];rfl) (rE G f λQ t I=>?_);have t:Bk Q W (enc f) 65:=t;refine rresG (B:=t) rfl ?_
   have R:=O.fr I λb' cs z _ J hd=>by
    have K:=G.h;rw [<-hd] at K;rw [K] at J;cases J
   exact⟨⟨agg f,congrArg (λb=>Value.tuple #[agg f,.bool b]) p.symm,⟨f,rfl,T,U,R⟩⟩,⟨Fr.st (lE w A) I L⟩⟩
  ·have a7:k=S.length:=by omega
   rw [a7,Qg] at hb
   have Z:reachL q.to S M=(zAn,M.isEmpty):=if_neg λh=>by
    have H:=Vi.1 h;obtain⟨y,Y,C⟩:=H;exact hb y Y (of_decide_eq_true C)
   rw [Z] at o;have H:∃f,f=(⟨false,0,⟨none,0,0⟩⟩:AnsD):=⟨_,rfl⟩;obtain⟨f,l⟩:=H;have T:f.found=(doneL g q S M).1.found:=by rw [o,l];rfl
   have U:f.num=(doneL g q S M).1.num:=by rw [o,l];rfl
   have O:SlY 206 A (.slice f.s.a f.s.n f.s.c) (doneL g q S M).1.hits:=by rw [o,l];exact SlY.nil _ _
   refine rbuild (cs:=enc f) (by rw [l];rfl) (ite (λC=>?_) (λC=>?_))
   ·have p:(doneL g q S M).2=true:=by rw [o];exact List.isEmpty_iff.2 (Qn (by omega))
    refine rE G f λQ t I=>?_;have t:Bk Q W (enc f) 65:=t;refine rresG (B:=t) rfl ?_
    have R:=O.fr I λb' cs z _ J hd=>by
     have K:=G.h;rw [<-hd] at K;rw [K] at J;cases J
    exact⟨⟨agg f,congrArg (λb=>Value.tuple #[agg f,.bool b]) p.symm,⟨f,rfl,T,U,R⟩⟩,⟨Fr.st (lE w A) I L⟩⟩
   ·have p:(doneL g q S M).2=false:=by rw [o];cases M with|nil=>simp at C|cons x r=>rfl
    refine rE G f λQ t I=>?_;have t:Bk Q W (enc f) 65:=t;refine rresG (B:=t) rfl ?_
    have R:=O.fr I λb' cs z _ J hd=>by
     have K:=G.h;rw [<-hd] at K;rw [K] at J;cases J
    exact⟨⟨agg f,congrArg (λb=>Value.tuple #[agg f,.bool b]) p.symm,⟨f,rfl,T,U,R⟩⟩,⟨Fr.st (lE w A) I L⟩⟩
 refine rld (B:=Bq) (v:=.int .i64 q.kind) (by rw [<-k1];rfl) (iF (by omega) ?_);have a4:q.kind=3:=by omega
 have o:doneL g q S M=nearL (placesL g q.words) q.most S M:=by unfold doneL;rw [if_neg h4,if_neg h5,if_pos a4]
 refine ite (λC=>?_) (λC=>?_)
 ·have Z:nearL (placesL g q.words) q.most S M=(zAn,false):=if_neg (by cases M with|nil=>simp at C|cons x r=>simp);rw [Z] at o;have H:∃A,A=w2:=⟨_,rfl⟩;obtain⟨A,a0⟩:=H;have H:∃f,f=(⟨false,0,⟨none,0,0⟩⟩:AnsD):=⟨_,rfl⟩;obtain⟨f,l⟩:=H;have p:(doneL g q S M).2=false:=by rw [o]
  have T:f.found=(doneL g q S M).1.found:=by rw [o,l];rfl
  have U:f.num=(doneL g q S M).1.num:=by rw [o,l];rfl
  have O:SlY 206 A (.slice f.s.a f.s.n f.s.c) (doneL g q S M).1.hits:=by rw [o,l];exact SlY.nil _ _
  have G:=R2;subst a0;refine rbuild (cs:=enc f) (by rw [l];rfl) (rE G f λQ t I=>?_);have t:Bk Q W (enc f) 65:=t;refine rresG (B:=t) rfl ?_
  have R:=O.fr I λb' cs z _ J hd=>by
   have K:=G.h;rw [<-hd] at K;rw [K] at J;cases J
  exact⟨⟨agg f,congrArg (λb=>Value.tuple #[agg f,.bool b]) p.symm,⟨f,rfl,T,U,R⟩⟩,⟨Fr.st (lE w A) I L⟩⟩
 ·have Z:nearL (placesL g q.words) q.most S M=(⟨!(firstK q.most (hitsL (placesL g q.words) S)).isEmpty,0,firstK q.most (hitsL (placesL g q.words) S)⟩,true):=if_pos (by cases M with|nil=>rfl|cons x r=>simp at C);rw [Z] at o;refine rG Bq xq (rcall (zLF (V.up (w':=w2)) hq a4 hg (h.up (w':=w2)) (Mp.up (w':=w2)) a5 (h2.up (w':=w2)) a1) ?_);rintro _ A ⟨⟨f,rfl,h7,h8,O⟩,e3⟩;have G:=R2.mv (w:=A);have p:(doneL g q S M).2=true:=by rw [o]
  have T:f.found=(doneL g q S M).1.found:=by rw [o];exact h7
  have U:f.num=(doneL g q S M).1.num:=by rw [o];exact h8
  have O:SlY 206 A (.slice f.s.a f.s.n f.s.c) (doneL g q S M).1.hits:=by rw [o];exact O
  refine rE G f λQ t I=>?_;have t:Bk Q W (enc f) 65:=t;refine rresG (B:=t) rfl ?_
  have R:=O.fr I λb' cs z _ J hd=>by
   have K:=G.h;rw [<-hd] at K;rw [K] at J;cases J
  exact⟨⟨agg f,congrArg (λb=>Value.tuple #[agg f,.bool b]) p.symm,⟨f,rfl,T,U,R⟩⟩,⟨Fr.st (lE w A) I L⟩⟩
theorem zLo(f S:List StD)(x:StD):insAll (f++[x]) S=insS x (insAll f S):=by unfold insAll;rw [VF];rfl
theorem zM8(f S:List StD):(insAll f S).length=S.length+f.length:=by rw [(zBc f S).length_eq,Qb]
theorem zLH{V:RRow}{r:List EdN}{xq:RQ}{c c2 W:Nat}{S M:List StD}{w:World}(C:GrIs g)(R:RwF w V g r)(a0:xq.kind=q.kind/\xq.rad=q.rad)
  (G:SlF w (.slice a n c) S)(hM:SlF w (.slice a2 n2 c2) M)(hr:SRis S)(H:∀x∈S,mayX x/\x.key.v<g.n)(A:∀x∈M,mayX x/\x.key.v<g.n)(hW:1<=W/\W<=16)(b0:S.length<=500)(b3:M.length<=450):
  Sp PP 119 #[agg xq,agg V,.slice a n c,.slice a2 n2 c2,.int .i64 (W:Int)] w λv w'=>(∃I J,v=.tuple #[I,J,.int .i64 0]/\Own w.heap.size 222 w' I (stepL g q S M).1/\Own w.heap.size 211 w' J (stepL g q S M).2)/\Stp w w':=by
 have b4:=C.ok.n2;have l1:=R.off.len;have q1:=zAp g.n g.es;refine eN ?_;refine rbx λb1 w1 n1 B1=>rbx λb2 w2 n2 B2=>rG B2 V (rcall (zBY C (R.up (w':=w2))) ?_);rintro _ w3 ⟨rfl,e3⟩;refine rcall (zKD (G.up (w':=w3)) (by omega) hr λx t=>(H x t).1) ?_;rintro _ w4 ⟨rfl,e4⟩;refine rcall (zKB (hM.up (w':=w4)) (by omega) λx t=>(A x t).1) ?_;rintro _ w5 ⟨rfl,e5⟩;refine rX B2 rfl (rarE (y:=((g.n:Nat):Int)) (by omega) (by omega) (rcall (zJq (N:=g.n) (G.up (w':=w5)) (hM.up (w':=w5)) (by omega) (by omega) (λx t=>(H x t).2) λx t=>(A x t).2) ?_));rintro _ w6 ⟨rfl,e6⟩;refine iF (by omega) (iF (by omega) (rcall (zFy (G.up (w':=w6)) (hM.up (w':=w6)) (by omega) (by omega)) ?_));rintro _ p ⟨K,e7⟩;have z:∃f,f=freshL S M:=⟨_,rfl⟩;obtain⟨f,X⟩:=z;have b5:f.length<=M.length:=by rw [X];exact zM4 S M
 have a1:∀x∈f,mayX x/\x.key.v<g.n:=λx t=>by rw [X] at t;exact A x (zDn.1 t).1.1
 rw [<-X] at K;have z:=K.shape;obtain⟨fa,fc,rfl⟩:=z;have a8:=G.len;refine rapp (u:=p) ⟨rfl,rfl⟩ (Own.nil _ 222 _) (G.up (w':=p)) (by simp;omega) λv8 w8 O8 f8 s8=>?_;rw [Je] at O8;refine cnt2 TBok 17 [10,11,12] 14 15 16 f.length (λk I J u=>Own p.heap.size 222 u I (insAll (f.take k) S)/\Own p.heap.size 211 u J ((f.take k).flatMap (nextL g q))/\Stp p u) rfl rfl ⟨O8,Own.nil _ _ _,stp⟩ ?_;rintro k I J gf u hk ⟨Y,Z,e⟩;have z:=Y.shape;obtain⟨na,nc,rfl⟩:=z;have z:=Z.shape;obtain⟨sa,sc,rfl⟩:=z
 have b6:((f.take k).flatMap (nextL g q)).length<=900000:=by
  have h1:=zDg (f:=nextL g q) (m:=2000) (l:=f.take k) λx _=>zDo C q x;have h2:(f.take k).length*2000<=450*2000:=Ji _ (by rw [Qm];omega);omega
 have b7:=zM8 (f.take k) S;have b8:(f.take k).length<=f.length:=by rw [Qm];omega
 refine ite (λhlt=>?_) (λc0=>?_)
 ·have d:k<f.length:=by omega
  have L:=a1 _ (Qa d);have z7:=lz p u;refine dD (λi=>u.heap.size<=i) (upF 13 0) λO e1=>?_
  have nd:∀{b o:Nat} {cs:List Value},Value.blk (.slice fa f.length fc)=some b->¬u.heap.size<=b:=λ{b o cs} Q=>by
   obtain⟨b',h6,_,h8⟩:=K.lt (by intro h0;rw [h0] at d;simp at d);rw [Q] at h6;cases h6;omega
  refine tix (K.sl.up (w':=O)) (x:=f[k]) (by simp) λb9 o9 A9 Q=>tloadA (cs:=enc f[k].key) (A9.sub 0 3) rfl (nd (o:=0) (cs:=[]) Q) (tix (K.sl.up (w':=O)) (x:=f[k]) (by simp) λb9 o9 A9 Q=>tload1 (A9.cell 3 rfl) (nd (o:=0) (cs:=[]) Q) (tbuild (cs:=enc f[k]) rfl (ral λa4 u2 T a5=>⟨Fr.fr T.e,?_⟩)));have a9:=T.lo (u:=u);refine rE a5 (f[k]) λu3 X3 f3=>⟨f3.mono λi _ hi=>by omega,?_⟩;have X3:Bk u3 a4 (enc f[k]) 222:=X3;have s3:Stp u u3:=⟨Fr.st (lE u u2) f3 λi hi=>by omega⟩;refine rG B1 xq (rG B2 V (rG X3 (f[k]) ?_));refine rcall (zLC (x:=f[k]) C (R.up (w':=u3)) a0 L.1 L.2) ?_;rintro _ u4 ⟨⟨v4,rfl,O4⟩,c1⟩;refine iF (· rfl) (rG X3 (f[k]) ?_);have a6:=Y.up (w':=u4);refine rcall (zNk (x:=f[k]) a6.sl (by omega)) ?_;rintro v5 u5 ⟨O5,c3⟩;have c4:=zDo C q f[k];refine rapp (u:=p) ⟨rfl,rfl⟩ (Z.up (w':=u5)) (O4.sl.up (w':=u5)) (by omega) λv6 u6 O6 f6 s6=>?_
  have O9:Own p.heap.size 222 u6 v5 (insAll (f.take (k+1)) S):=by
   rw [take_add d,zLo];exact(O5.mono (lz p u4)).fro (Z.up (w':=u5)) f6 (by decide)
  have a7:Own p.heap.size 211 u6 v6 ((f.take (k+1)).flatMap (nextL g q)):=by
   rw [take_add d,Jl];simpa using O6
  exact rA ⟨rfl,d,O9,a7,stp⟩
 ·have z:k=f.length:=by omega
  obtain rfl:=z;refine rcall (zFy Y.sl Z.sl (by omega) (by omega)) ?_;rintro _ O ⟨O3,e1⟩;have U:stepL g q S M=(insAll (f.take f.length) S,freshL (insAll (f.take f.length) S) ((f.take f.length).flatMap (nextL g q))):=by rw [Qg,X];rfl
  have O5:Own w.heap.size 222 O (.slice na (insAll (f.take f.length) S).length nc) (stepL g q S M).1:=by rw [U];exact(Y.up (w':=O)).mono (lz w p)
  have O6:=O3.mono (lz w u);rw [show freshL (insAll (f.take f.length) S) ((f.take f.length).flatMap (nextL g q))=(stepL g q S M).2 by rw [U]] at O6;exact⟨⟨_,_,rfl,O5,O6⟩,stp⟩
def segs (l:List EdN) (v:Nat):List EdN:=(List.range v).flatMap (atV l)
theorem zCs(l:List EdN)(v:Nat):segs l (v+1)=segs l v++atV l v:=by
 unfold segs;rw [Jm,Jl];simp
theorem zEy(l:List EdN):∀v,(segs l v).length=cLt l v
 |0=>by rw [zB2];rfl
 |v+1=>by rw [zCs,Qb,zEy l v,zHY,zCW]
theorem zI7{l:List EdN}(h:l.Pairwise ltE):∀v,segs l v=l.take (cLt l v)
 |0=>by rw [zB2];rfl
 |v+1=>by
  have b:=seg_eq h v;have c:=zBi l v;rw [zCs,zI7 h v,<-b,show cLt l (v+1)=cLt l v+(cLt l (v+1) - cLt l v) by omega,List.take_add];simp
theorem zPa{l:List EdN}(h:l.Pairwise ltE)(b:∀e∈l,e.f<n):segs l n=l:=by rw [zI7 h,zFS b,Qg]
theorem zI6(l:List EdN):∀v,(segs l v).Perm (l.filter λe=>decide (e.f<v))
 |0=>by simp [segs]
 |v+1=>by
  rw [zCs];have h:=List.filter_append_perm (λe:EdN=>decide (e.f<v)) (l.filter λe=>decide (e.f<v+1));rw [List.filter_filter,List.filter_filter] at h
  have c:(λe:EdN=>decide (e.f<v) && decide (e.f<v+1))=λe=>decide (e.f<v):=by
   funext e;by_cases h:e.f<v
   ·simp [h,show e.f<v+1 by omega]
   ·simp [h]
  have d:(λe:EdN=>(!decide (e.f<v)) && decide (e.f<v+1))=λe=>decide (e.f=v):=by
   funext e;by_cases h:e.f=v
   ·simp [h]
   ·by_cases b:e.f<v
    ·simp [h,b]
    ·simp [h,b];omega
  rw [c,d] at h;exact((zI6 l v).append_right _).trans h
def revL (g:GrD):List EdN:=segs (g.es.map trnE) g.n
theorem zOs{l m:List EdN}(h:l.Perm m)(v:Nat):cLt l v=cLt m v:=(h.filter _).length_eq
theorem zMB(c:GrIs g):RevOf g (revL g):=by
 have l:(revL g).Perm (g.es.map trnE):=by
  refine(zI6 _ _).trans ?_;rw [JH.2];intro e o;have p:=Qq.1 o;obtain⟨r,h0,rfl⟩:=p;exact decide_eq_true (c.ok.ed r h0).2
 refine⟨l,?_⟩;unfold revL segs;rw [XQ];refine⟨λv _=>?_,?_⟩
 ·unfold atV;rw [List.filter_map,QY];refine(c.er.filter _).imp_of_mem ?_;intro a b w z h;have d:a.t=v:=of_decide_eq_true (show decide (a.t=v)=true from (QC.1 w).2);have f:b.t=v:=of_decide_eq_true (show decide (b.t=v)=true from (QC.1 z).2);unfold ltE at h ⊢;simp only [trnE];omega
 ·refine List.pairwise_lt_range.imp ?_;intro a b A x C y E;have d:=(QC.1 C).2;have f:=(QC.1 E).2;simp at d f;exact .inl (by omega)
theorem zOQ(b:GrIs g):offL g.n (revL g)=offL g.n (g.es.map trnE):=by
 unfold offL;apply Ja;intro v _;rw [zOs (zMB b).1]
def offK (l:List EdN) (v:Nat):List Int:=(List.range v).map λj=>(cLt l j:Int)
theorem zIU(l:List EdN)(v:Nat):offK l (v+1)=offK l v++[(cLt l v:Int)]:=by unfold offK;rw [Jm,QB];rfl
theorem zKa(l:List EdN)(v:Nat):(offK l v).length=v:=by simp [offK]
def toK (l:List EdN) (v k:Nat):List Int:=toL (segs l v++atV (l.take k) v)
theorem zCe(l:List EdN)(v:Nat):toK l v 0=toL (segs l v):=by simp [toK,atV]
theorem zMI(l:List EdN)(v:Nat):toK l v l.length=toL (segs l (v+1)):=by unfold toK;rw [Qg,zCs]
theorem zK6{l:List EdN}{v:Nat}(h:k<l.length):toK l v (k+1)=if l[k].f=v then toK l v k++[(l[k].t:Int)] else toK l v k:=by
 unfold toK atV toL;rw [take_add h,QV,<-Qp,QB];by_cases e:l[k].f=v
 ·rw [if_pos e];simp [e]
 ·rw [if_neg e];simp [e]
theorem zMJ(l:List EdN)(v k:Nat):(toK l v k).length<=2*l.length:=by
 have b:=zEy l v;have d:=cLt_le l v;have c:=Qv (λe:EdN=>decide (e.f=v)) (l.take k);rw [Qm] at c;unfold toK toL atV;rw [Qr,Qb,b];omega
def slV (x:SV) (l:List Int):Value:=.slice x.a l.length x.c
abbrev r4L (V:Nat->SV) (L:Nat->List Int):List Value:=[slV (V 0) (L 0),slV (V 1) (L 1),slV (V 2) (L 2),slV (V 3) (L 3)]
def setF {α:Type} (V:Nat->α) (i:Nat) (x:α):Nat->α:=λj=>if j=i then x else V j
structure Rw4 (B:Nat) (bz br b:Nat) (cs:List Value) (V:Nat->SV) (L:Nat->List Int) (w:World):Prop where
 k:Bk w b cs 77
 z:Bk w bz [.slice none 0 0,.slice none 0 0,.slice none 0 0,.slice none 0 0] 82
 r:Bk w br (r4L V L) 82
 o:∀i,i<4->Own B 3 w (slV (V i) (L i)) (L i)
 lt:∀i,i<4->∀g,Value.blk (slV (V i) (L i))=some g->g<w.heap.size
 ap:∀i j,i<4->j<4->i≠j->∀g,Value.blk (slV (V i) (L i))=some g->Value.blk (slV (V j) (L j))≠some g
section
variable {B bz br b:Nat} {cs:List Value} {V:Nat->SV} {L:Nat->List Int} {w w':World}
theorem Rw4.up[Le w w'](R:Rw4 B bz br b cs V L w):Rw4 B bz br b cs V L w':=
 ⟨R.k.mv,R.z.mv,R.r.mv,λi hi=>(R.o i hi).up,λi hi g c=>QJ (R.lt i hi g c) (lz w w'),R.ap⟩
theorem Rw4.put(R:Rw4 B bz br b cs V L w)(hi:i<4){y:Int}{x:SV}(O:Own B 3 w1 (slV x (L i++[y])) (L i++[y]))(f:Fr (ownD B (slV (V i) (L i))) w w1)
  (C:Value.blk (slV x (L i++[y]))=Value.blk (slV (V i) (L i))\/Value.blk (slV x (L i++[y]))=some w.heap.size)(G:Bk w2 br (r4L (setF V i x) (setF L i (L i++[y]))) 82)(A:Fr (λj=>j=br) w1 w2)(U:¬bz=br)(W:¬b=br):
  Rw4 B bz br b cs (setF V i x) (setF L i (L i++[y])) w2:=by
 have z1:=R.z.fro (R.o i hi) f (by decide);have Q:=R.r.fro (R.o i hi) f (by decide);have e:∀j,j≠i->slV (setF V i x j) (setF L i (L i++[y]) j)=slV (V j) (L j):=λj h=>by simp only [setF,if_neg h]
 have H:slV (setF V i x i) (setF L i (L i++[y]) i)=slV x (L i++[y]):=by simp only [setF,if_true]
 have X:∀j,j≠i->setF L i (L i++[y]) j=L j:=λj h=>by simp only [setF,if_neg h]
 have J:setF L i (L i++[y]) i=L i++[y]:=by simp only [setF,if_true]
 have new:∀j,j<4->j≠i->∀g,Value.blk (slV x (L i++[y]))=some g->Value.blk (slV (V j) (L j))≠some g:=λj l K g c d=>by
  rcases C with C|C
  ·exact R.ap i j hi l (Jq K) g (C ▸ c) d
  ·have:=R.lt j l g d;rw [C] at c;cases c;omega
 refine⟨(R.k.fro (R.o i hi) f (by decide)).fr A W,z1.fr A U,G,λj l=>?_,λj l g I=>?_,λp q S T t g c d=>?_⟩
 ·by_cases h:j=i
  ·subst h;rw [H,J];exact O.frc A Q (by decide)
  ·rw [e j h,X j h];exact((R.o j l).fr f λb _ M hd=>R.ap j i l hi h b M hd.2.1).frc A Q (by decide)
 ·by_cases h:j=i
  ·subst h;rw [H] at I;have Y:=O.lt (by simp);obtain⟨g',c,_,Z⟩:=Y;rw [I] at c;cases c;exact QJ Z A.size
  ·rw [e j h] at I;exact QJ (R.lt j l g I) (Qw f.size A.size)
 ·by_cases v:p=i
  ·subst v;rw [H] at c;rw [e q (Jq t)] at d;exact new q T (Jq t) g c d
  ·rw [e p v] at c;by_cases F:q=i
   ·subst F;rw [H] at d;exact new p S v g d c
   ·rw [e q F] at d;exact R.ap p q S T t g c d
end
section
variable {P:Program} {T:Tab} {n:Nat} {Q:KS} {F0:Nat->Value} {w:World}
theorem cutR0{ops:Array Oper}(m:Nat)(b:List Nat)(I:World->Prop)(d:okB m b [] (.region i ops true)=true)(e:DeepS P T n (.region i ops true) { Q with nrm:=λ_ w'=>I w' } F0 w)
  (f:∀g w',I w'->Q.nrm (hdF m b [] g F0) w'):DeepS P T n (.region i ops true) Q F0 w:=
 cut0 (c:=.seq (.region i ops true) .skip) (y:=.skip) m b I rfl d e f
end
theorem zAI{α:Type}{V:Nat->α}{x:α}(h:j≠i):setF V i x j=V j:=if_neg h
theorem zDZ{α:Type}{V:Nat->α}{x:α}:setF V i x i=x:=if_pos rfl
structure LsI (g:GrD) (q v k k':Nat) (L:Nat->List Int):Prop where
 l0:L 0=offK g.es q
 l1:L 1=toK g.es v k
 l2:L 2=offK (g.es.map trnE) q
 l3:L 3=toK (g.es.map trnE) v k'
theorem zLv{x:RGr}{vs:List SV}{w:World}(V:GrV w x g vs)(hg:GrIs g):Sp PP 48 #[agg x] w λv w'=>(∃y,v=.tuple #[agg (y:RRow),.int .i64 0]/\RowO w.heap.size w' y g (revL g))/\Stp w w':=by
 have hn:=V.n;have e5:=V.es.len;have e6:=hg.ok.n2;have c0:=hg.ne;have c2:(g.es.map trnE).length=g.es.length:=Qr _;refine eN ?_;refine rbx λb w1 n1 J=>ral λbz w2 n2 z2=>?_;have hb:=n1.b;have e7:=n1.s;have e8:=n2.b;have e9:=n2.s;have Z2:Bk w2 bz [.slice none 0 0,.slice none 0 0,.slice none 0 0,.slice none 0 0] 82:=z2;refine rG J x (rcall (zFv (V.up (w':=w2))) ?_);rintro _ w3 ⟨⟨rfl,_⟩|⟨rfl,h⟩,e3⟩
 case' inr=>exact absurd hg h
 refine ral λW w4 n4 z4=>?_;have f0:=n4.b;have f1:=n4.s;have f3:=lz w2 w3;have hz:¬bz=W:=by omega
 have a0:¬b=W:=by omega
 have a1:∀i,i=W->w.heap.size<=i:=by omega
 have c4:∀i,i=bz->w.heap.size<=i:=by omega
 have R0:Rw4 w.heap.size bz W b (enc x) (λ_=>⟨none,0,0⟩) (λ_=>[]) w4:=⟨J.mv,Z2.mv,z4,λ_ _=>Own.nil _ _ _,(λ_ _ g h=>by cases h),λ_ _ _ _ _ g h=>by cases h⟩;refine cnt TBok 6 [] 5 (g.n+1) (λk u=>∃X L,Rw4 w.heap.size bz W b (enc x) X L u/\LsI g k k 0 0 L/\Stp w u) rfl rfl ⟨_,_,R0,⟨rfl,rfl,rfl,rfl⟩,stp⟩ ?_;clear R0 Z2 z2 z4 J;rintro k gf u hk ⟨X,L,R,I,e⟩;have J:=R.k;refine rld (B:=J) (v:=.int .i64 (g.n:Int)) (by rw [<-hn];rfl) ?_;have i0:=I.l0;have i1:=I.l1;have i2:=I.l2;have i3:=I.l3;refine ite (λhlt=>?_) (λf4=>?_)
 case' refine_2 =>
  have d:k=g.n+1:=by omega
  obtain rfl:=d;have c5:segs g.es (g.n+1)=g.es:=zPa hg.er λe he=>by have:=(hg.ok.ed e he).1;omega
  have c7:segs (g.es.map trnE) (g.n+1)=revL g:=by
   rw [zCs];unfold revL
   rw [show atV (g.es.map trnE) g.n=[] from JA.2 λe he=>by
    have d:=Qq.1 he;obtain⟨e0,h0,rfl⟩:=d;have:=(hg.ok.ed e0 h0).2;have h1:(trnE e0).f=e0.t:=rfl;simp only [decide_eq_true_eq,h1];omega,QE]
  refine rldG (ds:=r4L X L) (B:=R.r) rfl rfl (rS R.z (r4L X L) (by intro u hu;simp [slV] at hu;rcases hu with rfl|rfl|rfl|rfl <;> rfl) λu2 Z2 f2=>?_);have Z2:Bk u2 bz (r4L X L) 82:=Z2;refine rresG (B:=Z2) rfl ?_;have O:=λi (hi:i<4)=>(R.o i hi).frc f2 R.z (by decide);refine⟨⟨⟨⟨(X 0).a,(L 0).length,(X 0).c⟩,⟨(X 1).a,(L 1).length,(X 1).c⟩,⟨(X 2).a,(L 2).length,(X 2).c⟩,⟨(X 3).a,(L 3).length,(X 3).c⟩⟩,rfl,zMB hg,?_,?_,?_,?_⟩,⟨Fr.st e.e f2 c4⟩⟩
  ·have h:=O 0 (by omega);have q:L 0=offL g.n g.es:=i0;rw [<-q];exact h
  ·have h:=O 1 (by omega);have q:L 1=toL g.es:=by rw [i1,zCe,c5]
   rw [<-q];exact h
  ·have h:=O 2 (by omega);have q:L 2=offL g.n (revL g):=by rw [zOQ hg];exact i2
   rw [<-q];exact h
  ·have h:=O 3 (by omega);have q:L 3=toL (revL g):=by rw [i3,zCe,c7]
   rw [<-q];exact h
 have q0:(L 0).length=k:=by rw [i0,zKa]
 have q1:(L 1).length=cLt g.es k:=by rw [i1,zCe,zAw,zEy]
 have q2:(L 2).length=k:=by rw [i2,zKa]
 have q3:(L 3).length=cLt (g.es.map trnE) k:=by rw [i3,zCe,zAw,zEy]
 have c1:=cLt_le g.es k;have c3:=cLt_le (g.es.map trnE) k;refine rX R.r rfl (rX R.r rfl ?_);refine rbs1 (((L 1).length:Nat):Int) rfl rfl (by decide) λb6 G Y _ S4=>?_;have A:=R.up (w':=G);have z4:=lz w G;refine rappD ⟨rfl,rfl⟩ (A.o 0 (by omega)) S4 (by simp) z4 (by simp only [QA,QZ];omega) λv6 u5 Z H M=>?_;have d:=Z.shape;obtain⟨a6,c6,rfl⟩:=d;refine rS (A.r.fro (A.o 0 (by omega)) H (by decide)) [.slice a6 (L 0++[(((L 1).length:Nat):Int)]).length c6] (sv1 _ _ _) λu6 G6 Q=>?_;have s5:Stp w u5:=⟨Fr.st (lE w G) H λi hi=>hi.1⟩;have s6:Stp w u6:=⟨Fr.st s5.e Q a1⟩;have R6:=A.put (i:=0) (by omega) (x:=⟨a6,0,c6⟩) Z H M G6 Q hz a0;have d:∃X1,X1=setF X 0 ⟨a6,0,c6⟩:=⟨_,rfl⟩;obtain⟨X1,a9⟩:=d;have d:∃S,S=setF L 0 (L 0++[(((L 1).length:Nat):Int)]):=⟨_,rfl⟩;obtain⟨S,T⟩:=d;rw [<-a9,<-T] at R6;have j0:S 0=offK g.es (k+1):=by rw [T,zDZ,i0,zIU,q1]
 have j1:S 1=L 1:=by rw [T,zAI (by decide)]
 have j2:S 2=L 2:=by rw [T,zAI (by decide)]
 have j3:S 3=L 3:=by rw [T,zAI (by decide)]
 have c8:(S 2).length=k:=by rw [j2,q2]
 have b0:(S 3).length=cLt (g.es.map trnE) k:=by rw [j3,q3]
 clear R A Z;refine rX R6.r rfl (rX R6.r rfl ?_);refine rbs1 (((S 3).length:Nat):Int) rfl rfl (by decide) λf5 a5 f6 _ c9=>?_;have a4:=R6.up (w':=a5);have d0:=lz w a5;refine rappD ⟨rfl,rfl⟩ (a4.o 2 (by omega)) c9 (by simp) d0 (by simp only [QA,QZ];omega) λf7 d1 a7 a8 b1=>?_;have d:=a7.shape;obtain⟨b3,b4,rfl⟩:=d;refine rS (a4.r.fro (a4.o 2 (by omega)) a8 (by decide)) [.slice b3 (S 2++[(((S 3).length:Nat):Int)]).length b4] (sv1 _ _ _) λd2 d3 b7=>?_;have d4:Stp w d1:=⟨Fr.st (lE w a5) a8 λi hi=>hi.1⟩;have d5:Stp w d2:=⟨Fr.st d4.e b7 a1⟩;have b8:=a4.put (i:=2) (by omega) (x:=⟨b3,0,b4⟩) a7 a8 b1 d3 b7 hz a0
 have I2:LsI g (k+1) k 0 0 (setF S 2 (S 2++[(((S 3).length:Nat):Int)])):=by
  refine⟨?_,?_,?_,?_⟩
  ·rw [zAI (by decide),j0]
  ·rw [zAI (by decide),j1,i1]
  ·rw [zDZ,j2,i2,zIU,b0]
  ·rw [zAI (by decide),j3,i3]
 clear a4 a7 R6;refine cnt TBok 7 [] 6 g.es.length (λj u'=>∃X L,Rw4 w.heap.size bz W b (enc x) X L u'/\LsI g (k+1) k j j L/\Stp w u') rfl rfl ⟨_,_,b8,I2,d5⟩ ?_;clear b8 I2 i0 i1 i2 i3 q0 q1 q2 q3 j0 j1 j2 j3 c8 b0 T a9 J I;rintro j f8 u' hj ⟨X,L,R,I,e⟩;have J:=R.k;refine rX J rfl (ite (λe2=>?_) (λe4=>?_))
 case' refine_2 =>
  have d:j=g.es.length:=by omega
  obtain rfl:=d;refine rA ⟨rfl,by omega,X,L,R,⟨I.l0,?_,I.l2,?_⟩,e⟩
  ·rw [I.l1,zMI,zCe]
  ·rw [zCe,<-zMI,c2];exact I.l3
 have l:j<g.es.length:=by omega
 have d6:j<(g.es.map trnE).length:=by omega
 have d7:(g.es.map trnE)[j]=trnE g.es[j]:=Ym _;have i1:=I.l1;have i3:=I.l3;have t1:=zK6 (v:=k) l;have t3:=zK6 (v:=k) d6;rw [d7] at t3;have q1:=zMJ g.es k j;have q3:=zMJ (g.es.map trnE) k j;refine rX J rfl (rix (V.es.up (w':=u')) (x:=g.es[j]) (by simp) λb2 o2 A2=>rload1 (A2.cell 0 rfl) (ite (λhe=>?_) (λc0=>?_)))
 case' refine_2 =>
  rw [if_neg (show ¬g.es[j].f=k by omega)] at t1;have C:LsI g (k+1) k (j+1) j L:=⟨I.l0,by rw [t1];exact i1,I.l2,i3⟩;have d:∃uu,uu=u':=⟨_,rfl⟩;obtain⟨uu,d8⟩:=d;subst d8;have J:=R.k;refine rX J rfl (rix (V.es.up (w':=uu)) (x:=g.es[j]) (by simp) λb2 o2 A2=>rload1 (A2.cell 1 rfl) (ite (λd9=>?_) (λb9=>?_)))
  case' refine_2 =>
   rw [if_neg (show ¬(trnE g.es[j]).f=k by show ¬g.es[j].t=k;omega)] at t3;exact rA ⟨rfl,l,X,L,R,⟨C.l0,C.l1,C.l2,by rw [t3];exact C.l3⟩,e⟩
  rw [if_pos (show (trnE g.es[j]).f=k by show g.es[j].t=k;omega)] at t3;have e1:(L 3).length<=1000000:=by rw [C.l3];omega
  refine cutR0 67 [] (λp=>∃X',Rw4 w.heap.size bz W b (enc x) X' (setF L 3 (L 3++[(g.es[j].f:Int)])) p/\Stp w p) rfl ?_ ?_
  case' refine_2 =>
   rintro g3 p ⟨X',R',e'⟩;exact rA ⟨rfl,l,X',_,R',⟨by rw [zAI (by decide)];exact C.l0,by rw [zAI (by decide)];exact C.l1,by rw [zAI (by decide)];exact C.l2,by rw [zDZ,t3,C.l3];rfl⟩,e'⟩
  refine dT (λi=>i=W\/ownD w.heap.size (slV (X 3) (L 3)) i) (oL [0,2,3,4,5,6,7] (.duo 1 (oL [8,9,10,11] .nil) 8 (.lone 1 (oL [9,10,11] .nil)))) λp e3=>?_;have K:=R.up (w':=p);have B3:=J.mv (w:=p);refine tX B3 rfl (λhd=>hd.elim (B3.ne K.r (by decide)) (B3.notOwn (K.o 3 (by omega)) (by decide))) ?_
  refine tix (V.es.up (w':=p)) (x:=g.es[j]) (by simp) λb5 o5 A5 h5=>tload1 (A5.cell 0 rfl) (λhd=>by
   obtain⟨b6,h7,h6⟩:=V.es.lt (by intro h0;rw [h0] at l;simp at l);rw [h5] at h7;cases h7;rcases hd with hd|hd
   ·omega
   ·have:=hd.1;omega) ?_
  refine⟨?_,?_⟩
  case' refine_1 =>
   refine rX K.r rfl ⟨Fr.refl _ _,?_⟩;refine rbs1 (g.es[j].f:Int) rfl rfl (by decide) λb6 G Y _ S4=>⟨Fr.fr Y.e,?_⟩
  case' refine_2 =>
   refine rbs1 (g.es[j].f:Int) rfl rfl (by decide) λb6 G Y _ S4=>⟨Fr.fr Y.e,?_⟩;refine rX K.r rfl ⟨Fr.refl _ _,?_⟩
  all_goals
   have A:=K.up (w':=G);have z4:=lz w G;refine rappD ⟨rfl,rfl⟩ (A.o 3 (by omega)) S4 (by simp) z4 (by simp only [QA,QZ];omega) λv6 u5 Z H M=>⟨H.mono λi _ hi=>.inr hi,?_⟩;have d:=Z.shape;obtain⟨a6,c6,rfl⟩:=d;refine rS (A.r.fro (A.o 3 (by omega)) H (by decide)) [.slice a6 (L 3++[(g.es[j].f:Int)]).length c6] (sv1 _ _ _) λu6 G6 Q=>⟨Q.mono λi _ hi=>.inl hi,?_⟩;have s5:Stp w u5:=⟨Fr.st (lE w G) H λi hi=>hi.1⟩;exact⟨_,A.put (i:=3) (by omega) (x:=⟨a6,0,c6⟩) Z H M G6 Q hz a0,⟨Fr.st s5.e Q a1⟩⟩
 rw [if_pos (show g.es[j].f=k by omega)] at t1;have f9:(L 1).length<=1000000:=by rw [i1];omega
 refine cutR0 48 [] (λp=>∃X',Rw4 w.heap.size bz W b (enc x) X' (setF L 1 (L 1++[(g.es[j].t:Int)])) p/\Stp w p) rfl ?_ ?_
 case' refine_1 =>
  refine dT (λi=>i=W\/ownD w.heap.size (slV (X 1) (L 1)) i) (oL [0,2,3,4,5,6,7] (.duo 1 (oL [8,9,10,11] .nil) 8 (.lone 1 (oL [9,10,11] .nil)))) λp e3=>?_;have K:=R.up (w':=p);have B3:=J.mv (w:=p);refine tX B3 rfl (λhd=>hd.elim (B3.ne K.r (by decide)) (B3.notOwn (K.o 1 (by omega)) (by decide))) ?_
  refine tix (V.es.up (w':=p)) (x:=g.es[j]) (by simp) λb5 o5 A5 h5=>tload1 (A5.cell 1 rfl) (λhd=>by
   obtain⟨b6,h7,h6⟩:=V.es.lt (by intro h0;rw [h0] at l;simp at l);rw [h5] at h7;cases h7;rcases hd with hd|hd
   ·omega
   ·have:=hd.1;omega) ?_
  refine⟨?_,?_⟩
  case' refine_1 =>
   refine rX K.r rfl ⟨Fr.refl _ _,?_⟩;refine rbs1 (g.es[j].t:Int) rfl rfl (by decide) λb6 G Y _ S4=>⟨Fr.fr Y.e,?_⟩
  case' refine_2 =>
   refine rbs1 (g.es[j].t:Int) rfl rfl (by decide) λb6 G Y _ S4=>⟨Fr.fr Y.e,?_⟩;refine rX K.r rfl ⟨Fr.refl _ _,?_⟩
  all_goals
   have A:=K.up (w':=G);have z4:=lz w G;refine rappD ⟨rfl,rfl⟩ (A.o 1 (by omega)) S4 (by simp) z4 (by simp only [QA,QZ];omega) λv6 u5 Z H M=>⟨H.mono λi _ hi=>.inr hi,?_⟩;have d:=Z.shape;obtain⟨a6,c6,rfl⟩:=d;refine rS (A.r.fro (A.o 1 (by omega)) H (by decide)) [.slice a6 (L 1++[(g.es[j].t:Int)]).length c6] (sv1 _ _ _) λu6 G6 Q=>⟨Q.mono λi _ hi=>.inl hi,?_⟩;have s5:Stp w u5:=⟨Fr.st (lE w G) H λi hi=>hi.1⟩;exact⟨_,A.put (i:=1) (by omega) (x:=⟨a6,0,c6⟩) Z H M G6 Q hz a0,⟨Fr.st s5.e Q a1⟩⟩
 rintro g3 uu ⟨X',R',e⟩;have d:∃L',L'=setF L 1 (L 1++[(g.es[j].t:Int)]):=⟨_,rfl⟩;obtain⟨L',U⟩:=d;rw [<-U] at R';have C:LsI g (k+1) k (j+1) j L':=⟨by rw [U,zAI (by decide)];exact I.l0,by rw [U,zDZ,t1,i1],by rw [U,zAI (by decide)];exact I.l2,by rw [U,zAI (by decide)];exact i3⟩;clear R U i1 i3 I J;have R:=R';have d:∃L,L=L':=⟨_,rfl⟩;obtain⟨L,rfl⟩:=d;have d:∃X,X=X':=⟨_,rfl⟩;obtain⟨X,rfl⟩:=d;have J:=R.k;refine rX J rfl (rix (V.es.up (w':=uu)) (x:=g.es[j]) (by simp) λb2 o2 A2=>rload1 (A2.cell 1 rfl) (ite (λd9=>?_) (λb9=>?_)))
 case' refine_2 =>
  rw [if_neg (show ¬(trnE g.es[j]).f=k by show ¬g.es[j].t=k;omega)] at t3;exact rA ⟨rfl,l,X,L,R,⟨C.l0,C.l1,C.l2,by rw [t3];exact C.l3⟩,e⟩
 rw [if_pos (show (trnE g.es[j]).f=k by show g.es[j].t=k;omega)] at t3;have e1:(L 3).length<=1000000:=by rw [C.l3];omega
 refine cutR0 67 [] (λp=>∃X',Rw4 w.heap.size bz W b (enc x) X' (setF L 3 (L 3++[(g.es[j].f:Int)])) p/\Stp w p) rfl ?_ ?_
 case' refine_2 =>
  rintro g3 p ⟨X',R',e'⟩;exact rA ⟨rfl,l,X',_,R',⟨by rw [zAI (by decide)];exact C.l0,by rw [zAI (by decide)];exact C.l1,by rw [zAI (by decide)];exact C.l2,by rw [zDZ,t3,C.l3];rfl⟩,e'⟩
 refine dT (λi=>i=W\/ownD w.heap.size (slV (X 3) (L 3)) i) (oL [0,2,3,4,5,6,7] (.duo 1 (oL [8,9,10,11] .nil) 8 (.lone 1 (oL [9,10,11] .nil)))) λp e3=>?_;have K:=R.up (w':=p);have B3:=J.mv (w:=p);refine tX B3 rfl (λhd=>hd.elim (B3.ne K.r (by decide)) (B3.notOwn (K.o 3 (by omega)) (by decide))) ?_
 refine tix (V.es.up (w':=p)) (x:=g.es[j]) (by simp) λb5 o5 A5 h5=>tload1 (A5.cell 0 rfl) (λhd=>by
  obtain⟨b6,h7,h6⟩:=V.es.lt (by intro h0;rw [h0] at l;simp at l);rw [h5] at h7;cases h7;rcases hd with hd|hd
  ·omega
  ·have:=hd.1;omega) ?_
 refine⟨?_,?_⟩
 case' refine_1 =>
  refine rX K.r rfl ⟨Fr.refl _ _,?_⟩;refine rbs1 (g.es[j].f:Int) rfl rfl (by decide) λb6 G Y _ S4=>⟨Fr.fr Y.e,?_⟩
 case' refine_2 =>
  refine rbs1 (g.es[j].f:Int) rfl rfl (by decide) λb6 G Y _ S4=>⟨Fr.fr Y.e,?_⟩;refine rX K.r rfl ⟨Fr.refl _ _,?_⟩
 all_goals
  have A:=K.up (w':=G);have z4:=lz w G;refine rappD ⟨rfl,rfl⟩ (A.o 3 (by omega)) S4 (by simp) z4 (by simp only [QA,QZ];omega) λv6 u5 Z H M=>⟨H.mono λi _ hi=>.inr hi,?_⟩;have d:=Z.shape;obtain⟨a6,c6,rfl⟩:=d;refine rS (A.r.fro (A.o 3 (by omega)) H (by decide)) [.slice a6 (L 3++[(g.es[j].f:Int)]).length c6] (sv1 _ _ _) λu6 G6 Q=>⟨Q.mono λi _ hi=>.inl hi,?_⟩;have s5:Stp w u5:=⟨Fr.st (lE w G) H λi hi=>hi.1⟩;exact⟨_,A.put (i:=3) (by omega) (x:=⟨a6,0,c6⟩) Z H M G6 Q hz a0,⟨Fr.st s5.e Q a1⟩⟩
theorem zCa{x:AnsD}{id b:Int}{a:AnP}{w:World}(l:x.found=a.found)(o:x.num=a.num)(h:SlF w (.slice x.s.a x.s.n x.s.c) a.hits)(r:a.hits.length<=1000000):
  Sp PP 123 #[agg (⟨id,b,x⟩:RepD)] w λv w'=>(∃e:Int,v=.tuple #[txt (repB id b a),.int .i64 e])/\Stp w w':=by
 have d:=zKM (y:=⟨id,b,x⟩) (p:=(id,b,a)) rfl rfl l o;refine(zHK (x:=⟨id,b,x⟩) h r).mono λv w' ⟨t,e⟩=>⟨?_,e⟩;rcases t with ⟨f,rfl⟩|⟨f,rfl⟩
 ·exact⟨0,by rw [zIj (d.1.1 f),d.2]⟩
 ·exact⟨1,by rw [zIi λz=>f (d.1.2 z)]⟩
theorem zAA{id b:Int}{w:World}:Sp PP 67 #[.int .i64 id,.int .i64 b] w λv w'=>v=txt (repB id b zAn)/\Stp w w':=by
 refine eN ?_;refine rbuild (cs:=enc (⟨id,b,⟨false,0,⟨none,0,0⟩⟩⟩:RepD)) rfl (rcall (zCa (a:=zAn) rfl rfl (SlF.nil' _ _ _) (by simp [zAn])) ?_);rintro _ w1 ⟨⟨e,rfl⟩,c⟩;exact⟨rfl,c⟩
theorem zJr{x:RCfg}{w:World}:Sp PP 46 #[agg x] w λv w'=>Tells (cfgOk x) v/\Stp w w':=by
 unfold cfgOk;refine eN ?_;refine rbx λb w1 n1 c=>rld (B:=c) (v:=.int .i64 x.workers) rfl (ite (λe=>?_) (λe=>⟨.f (by omega),stp⟩));refine rld (B:=c) (v:=.int .i64 x.workers) rfl (ite (λh=>?_) (λh=>⟨.f (by omega),stp⟩));refine rld (B:=c) (v:=.int .i64 x.slots) rfl (ite (λl=>?_) (λl=>⟨.f (by omega),stp⟩));refine rld (B:=c) (v:=.int .i64 x.slots) rfl (ite (λo=>?_) (λo=>⟨.f (by omega),stp⟩));refine rld (B:=c) (v:=.int .i64 x.queue) rfl (ite (λp=>?_) (λp=>⟨.f (by omega),stp⟩));refine rld (B:=c) (v:=.int .i64 x.queue) rfl (ite (λr=>?_) (λr=>⟨.f (by omega),stp⟩));refine rld (B:=c) (v:=.int .i64 x.pool) rfl (ite (λy=>?_) (λy=>⟨.f (by omega),stp⟩));refine rld (B:=c) (v:=.int .i64 x.pool) rfl (ite (λz=>?_) (λz=>⟨.f (by omega),stp⟩));refine rld (B:=c) (v:=.int .i64 x.budget) rfl (ite (λA=>?_) (λA=>⟨.f (by omega),stp⟩));refine rld (B:=c) (v:=.int .i64 x.budget) rfl ?_;exact ite (λd=>⟨.t ⟨⟨e,h⟩,⟨l,o⟩,⟨p,r⟩,⟨y,z⟩,A,d⟩,stp⟩) (λd=>⟨.f (by omega),stp⟩)
structure RRun where
 states:SV
 mails:SV
 steps:Int
instance encRun:Enc RRun:=⟨3,λx=>[.slice x.states.a x.states.n x.states.c,.slice x.mails.a x.mails.n x.mails.c,.int .i64 x.steps],λ_=>rfl,by intro x u hu;simp at hu;rcases hu with rfl|rfl|rfl <;> rfl,by decide⟩
def zRun:RRun:=⟨⟨none,0,0⟩,⟨none,0,0⟩,0⟩
structure RefK where
 br:Nat
 xr:RRow
 r:List EdN
 ws:SV
 wl:List ByteArray
 ps:List RPo
abbrev refL (c : CfD) (K : RefK) (wt hd : SV) : List Value :=
  [.int .i64 (c.workers : Nat), .int .i64 (c.slots : Nat), .int .i64 (c.queue : Nat), .int .i64 (c.pool : Nat), .int .i64 (c.budget : Nat),
   .slice K.xr.off.a K.xr.off.n K.xr.off.c, .slice K.xr.to.a K.xr.to.n K.xr.to.c, .slice K.xr.rof.a K.xr.rof.n K.xr.rof.c, .slice K.xr.rev.a K.xr.rev.n K.xr.rev.c,
   .slice K.ws.a K.ws.n K.ws.c, .slice wt.a wt.n wt.c, .slice hd.a hd.n hd.c, .slice (some ⟨K.br, 0, none⟩) c.slots c.slots]
def RunOk (w:World) (g:GrD) (x:RHeld) (j:RRun) (o:Option (RqD×Nat)) (k:Nat):Prop:=match o with
 |none=>x.used=false/\j=zRun
 |some (d,i)=>x.used=true/\RqV w x.r d/\SlF w j.states.v (sts g d.q k i)/\SlF w j.mails.v (mls g d.q k i)/\j.steps=i
structure RefF (g:GrD) (c:CfD) (K:RefK) (wt hd:SV) (lw:List RReq) (lh:List RHeld) (lr:List RRun) (s:SvD) (w:World):Prop where
 rows:RwF w K.xr g K.r
 pos:PosM w g K.wl K.ps
 words:SlF w (.slice K.ws.a K.ws.n K.ws.c) K.ps
 fw:SlF w (.slice wt.a wt.n wt.c) lw
 fh:SlF w (.slice hd.a hd.n hd.c) lh
 lwn:lw.length=s.wait.length
 waits:∀i (h:i<lw.length) (h':i<s.wait.length),RqV w lw[i] s.wait[i]
 lhn:lh.length=s.held.length
 lrn:lr.length=s.held.length
 helds:∀k (h:k<lh.length) (h':k<lr.length),RunOk w g lh[k] lr[k] (s.held.getD k none) k
structure SvW (g:GrD) (c:CfD) (s:SvD):Prop where
 len:s.held.length=c.slots
 wl:s.wait.length<=c.queue
 wait:∀x∈s.wait,RqOk g x
 held:∀x i,some (x,i)∈s.held->RqOk g x/\i<=c.budget
theorem SvOk.w{c:CfD}{s:SvD}(h:SvOk g c s):SvW g c s:=⟨h.len,h.wl,h.wait,λx i b=>⟨(h.held x i b).1,Yj (h.held x i b).2⟩⟩
theorem SvW.set{c:CfD}{s:SvD}(h:SvW g c s)(k:Nat)(o:Option (RqD×Nat))(b:∀x i,o=some (x,i)->RqOk g x/\i<=c.budget):SvW g c ⟨s.wait,s.held.set k o⟩:=
 ⟨by simpa using h.len,h.wl,h.wait,λx i d=>(zB7 d).elim (h.held x i) (b x i)⟩
def mutR (bs br:Nat):Nat->Prop:=λi=>i=bs\/i=br
structure RefR (R:Nat->Prop) (B:Nat) (w:World) (bs:Nat) (g:GrD) (c:CfD) (s:SvD) (K:RefK) (wt hd:SV) (lw:List RReq) (lh:List RHeld) (lr:List RRun):Prop where
 reg:∀i,R i->B<=i/\i<w.heap.size
 rs:R bs
 rj:R K.br
 ne:bs≠K.br
 cell:Bk w bs (refL c K wt hd) 98
 runs:Own B 114 w (.slice (some ⟨K.br,0,none⟩) c.slots c.slots) lr
 fz:Fz (mutR bs K.br) R w (RefF g c K wt hd lw lh lr s)
 gi:GrIs g
 ci:CfOk c
 ps:K.ps.length<=2000
 so:SvW g c s
def RefP (R:Nat->Prop) (B:Nat) (w:World) (bs:Nat) (g:GrD) (c:CfD) (s:SvD):Prop:=∃K wt hd lw lh lr,RefR R B w bs g c s K wt hd lw lh lr
section
variable {R:Nat->Prop} {B:Nat} {w0 w w':World} {bs:Nat} {g:GrD} {c:CfD} {s:SvD} {K:RefK} {wt hd:SV} {lw:List RReq} {lh:List RHeld} {lr:List RRun}
theorem RefR.mut(S:RefR R B w bs g c s K wt hd lw lh lr)(h:mutR bs K.br i):R i:=h.elim (λh=>h ▸ S.rs) λh=>h ▸ S.rj
theorem RefR.away(S:RefR R B w bs g c s K wt hd lw lh lr)(f:Fr D w w')(b:∀i,D i->¬R i):RefR R B w' bs g c s K wt hd lw lh lr:=
 ⟨λi hi=>⟨(S.reg i hi).1,QJ (S.reg i hi).2 f.size⟩,S.rs,S.rj,S.ne,S.cell.fr f λh=>b _ h S.rs,S.runs.fr f λg _ d h=>by cases d;exact b _ h S.rj,
  S.fz.away f b,S.gi,S.ci,S.ps,S.so⟩
theorem RefP.away(S:RefP R B w bs g c s)(f:Fr D w w')(b:∀i,D i->¬R i):RefP R B w' bs g c s:=by
 obtain⟨K,wt,hd,lw,lh,lr,S⟩:=S;exact⟨K,wt,hd,lw,lh,lr,S.away f b⟩
theorem RefR.up[L:Le w w'](S:RefR R B w bs g c s K wt hd lw lh lr):RefR R B w' bs g c s K wt hd lw lh lr:=S.away L.e λ_ h=>h.elim
theorem RefP.up[L:Le w w'](S:RefP R B w bs g c s):RefP R B w' bs g c s:=S.away L.e λ_ h=>h.elim
theorem RefR.wide{R':Nat->Prop}(S:RefR R B w bs g c s K wt hd lw lh lr)(h:∀i,R i->R' i)(b:∀i,R' i->B<=i/\i<w.heap.size):RefR R' B w bs g c s K wt hd lw lh lr:=
 ⟨b,h _ S.rs,h _ S.rj,S.ne,S.cell,S.runs,λu f=>S.fz u (f.mono λi _ d=>d.imp id λe l=>e (h i l)),S.gi,S.ci,S.ps,S.so⟩
theorem RefP.wide{R':Nat->Prop}(S:RefP R B w bs g c s)(h:∀i,R i->R' i)(b:∀i,R' i->B<=i/\i<w.heap.size):RefP R' B w bs g c s:=by
 obtain⟨K,wt,hd,lw,lh,lr,S⟩:=S;exact⟨K,wt,hd,lw,lh,lr,S.wide h b⟩
theorem RefP.reg(S:RefP R B w bs g c s):(∀i,R i->B<=i/\i<w.heap.size)/\GrIs g/\CfOk c/\SvW g c s:=by
 obtain⟨K,wt,hd,lw,lh,lr,S⟩:=S;exact⟨S.reg,S.gi,S.ci,S.so⟩
theorem RefP.lo(S:RefP R B w bs g c s):∀i,R i->i<w.heap.size:=λi hi=>(S.reg.1 i hi).2
theorem RefR.finR{s':SvD}{b d:SV}{l:List RReq}{o:List RHeld}{h:List RRun}(S:RefR R B w bs g c s K wt hd lw lh lr)(e:w.heap.size<=w1.heap.size)(f:Fr (mutR bs K.br) w1 w')(v:B<=w.heap.size)
  (C:Bk w' bs (refL c K b d) 98)(J:Own B 114 w' (.slice (some ⟨K.br,0,none⟩) c.slots c.slots) h)(r:SvW g c s')
  (Z:Fz (mutR bs K.br) (gR R w w1) w1 (RefF g c K b d l o h s')):RefR (gR R w w') B w' bs g c s' K b d l o h:=by
 have x:=f.size;refine⟨λi hi=>?_,.inl S.rs,.inl S.rj,S.ne,C,J,?_,S.gi,S.ci,S.ps,r⟩
 ·rcases hi with hi|hi
  ·have:=S.reg i hi;omega
  ·omega
 ·refine Z.step f (λi hi t=>t) λi hi p=>?_;rcases p with p|p
  ·exact .inl p
  ·exact .inr (by omega)
theorem RefR.fin{s':SvD}{b d:SV}{l:List RReq}{o:List RHeld}{h:List RRun}(S:RefR R B w bs g c s K wt hd lw lh lr)(e:w.heap.size<=w1.heap.size)(f:Fr (mutR bs K.br) w1 w')(p:B<=w.heap.size)
  (C:Bk w' bs (refL c K b d) 98)(J:Own B 114 w' (.slice (some ⟨K.br,0,none⟩) c.slots c.slots) h)(r:SvW g c s')
  (Z:Fz (mutR bs K.br) (gR R w w1) w1 (RefF g c K b d l o h s')):RefP (gR R w w') B w' bs g c s':=
 ⟨K,b,d,l,o,h,S.finR e f p C J r Z⟩
theorem RefR.fz1[L:Le w w'](S:RefR R B w bs g c s K wt hd lw lh lr):Fz (mutR bs K.br) (gR R w w') w' (RefF g c K wt hd lw lh lr s):=
 S.fz.step (Fr.fr L.e) (λ_ _ h=>h) λ_ _ h=>.inl h
theorem RefR.fzO{α:Type}[Enc α]{C:Nat}{e:TypeId}{v:Value}{l:List α}(S:RefR R B w bs g c s K wt hd lw lh lr)(O:Own C e w' v l)(d:w.heap.size<=C):Fz (mutR bs K.br) (gR R w w') w' λu=>SlF u v l:=
 O.fz λi f b=>⟨.inr ⟨by omega,b⟩,λh=>by have:=S.reg i (S.mut h);omega⟩
theorem RefP.new[L:Le w w'](S:RefP R B w bs g c s)(b:B<=w.heap.size):RefP (gR R w w') B w' bs g c s/\Fr R w w':=by
 have h:=S.reg;refine⟨RefP.wide (RefP.up S) (λi hi=>.inl hi) λi hi=>?_,Fr.fr L.e⟩;have:=L.e.size;rcases hi with hi|hi
 ·have:=h.1 i hi;omega
 ·omega
theorem RefP.gr[L:Le w w1](S:RefP (gR R w1 w') B w' bs g c s)(h:w1.heap.size<=w'.heap.size)(b:B<=w.heap.size):RefP (gR R w w') B w' bs g c s:=by
 have h0:=S.reg;have:=L.e.size;refine RefP.wide S (λi hi=>hi.imp id λh=>by omega) λi hi=>?_;rcases hi with hi|hi
 ·exact h0.1 i (.inl hi)
 ·omega
theorem RefP.upto{R':Nat->Prop}[L:Le w1 w'](S:RefP R' B w1 bs g c s)(h:∀i,R' i->R i\/w.heap.size<=i)(b:∀i,R i->B<=i/\i<w.heap.size)(d:B<=w.heap.size)(f:w.heap.size<=w1.heap.size):RefP (gR R w w') B w' bs g c s:=by
 have h0:=S.reg.1;have:=L.e.size;refine RefP.wide (RefP.up (w':=w') S) (λi hi=>?_) λi hi=>?_
 ·have:=h0 i hi;exact(h i hi).imp id λh=>by omega
 ·rcases hi with hi|hi
  ·have:=b i hi;omega
  ·omega
theorem zKW{b:Hs}{k0:Nat}{a:RHeld}{j:RRun}{o:Option (RqD×Nat)}(d:k0<b.length)(H:∀k (h:k<lh.length) (f:k<lr.length),RunOk u g lh[k] lr[k] (b.getD k none) k)(h:RunOk u g a j o k0):
  ∀k (h:k<(lh.set k0 a).length) (f:k<(lr.set k0 j).length),RunOk u g (lh.set k0 a)[k] (lr.set k0 j)[k] ((b.set k0 o).getD k none) k:=λk l p=>by
 rw [zAz d];by_cases e:k=k0
 ·subst e;rw [if_pos rfl,JX,JX];exact h
 ·rw [if_neg e,JT (Jq e),JT (Jq e)];exact H k (by simpa using l) (by simpa using p)
theorem zO9{f:Hs}{k0:Nat}{b:RRun}{d:RqD}{l:Nat}(r:k0<f.length)(e:f.getD k0 none=some (d,i))(H:∀k (h:k<lh.length) (t:k<lr.length),RunOk u g lh[k] lr[k] (f.getD k none) k)
  (h:SlF u b.states.v (sts g d.q k0 l)/\SlF u b.mails.v (mls g d.q k0 l)/\b.steps=l):
  ∀k (h:k<lh.length) (t:k<(lr.set k0 b).length),RunOk u g lh[k] (lr.set k0 b)[k] ((f.set k0 (some (d,l))).getD k none) k:=λk x y=>by
 have o:=H k x (by simpa using y);rw [zAz r];by_cases p:k=k0
 ·subst p;rw [if_pos rfl,JX];rw [e] at o;exact⟨o.1,o.2.1,h⟩
 ·rw [if_neg p,JT (Jq p)];exact o
theorem RefF.jobs(l:RefF g c K wt hd lw lh lr s u):∀k (h:k<lh.length) (f:k<(lr.map λj=>(⟨j.mails,j.steps⟩:RJob)).length),HeldOk 1000 u g lh[k] (lr.map λj=>(⟨j.mails,j.steps⟩:RJob))[k] (s.held.getD k none) k:=λk h f=>by
 have b:=l.helds k h (by simpa using f)
 cases e:s.held.getD k none with
 |none=>rw [e] at b;exact b.1
 |some p=>obtain⟨d,i⟩:=p;rw [e] at b;exact⟨b.1,b.2.1,λ_=>by rw [Ym];exact b.2.2.2⟩
theorem RefF.plc(b:RefF g c K wt hd lw lh lr s u)(id:Int):plc lw id=waitAt s.wait id:=zKl b.lwn (λi h d=>(b.waits i h d).id) id
theorem RefF.found(b:RefF g c K wt hd lw lh lr s u)(id:Int):foundAt lh id=heldAt s.held id:=zHl b.lhn (by simp [b.lrn]) b.jobs id
theorem RefF.usedH(b:RefF g c K wt hd lw lh lr s u):usedH lh=(usedS s.held).map λk:Nat=>(k:Int):=by
 unfold Go.W.usedH usedAt usedS;rw [b.lhn];congr 1;unfold selN;refine XC λk f=>?_;have f:=Q0.1 f;have h:k<lh.length:=by rw [b.lhn];exact f
 have:=b.helds k h (by rw [b.lrn];exact f);rw [zAq h]
 cases e:s.held.getD k none with
 |none=>rw [e] at this;simp [this.1]
 |some p=>obtain⟨d,i⟩:=p;rw [e] at this;simp [this.1]
theorem RefF.free(f:RefF g c K wt hd lw lh lr s u):freeAt lh=freeS s.held:=by
 have l:freeAt lh=(lh.map (·.used)).findIdx? λb=>!b:=by unfold freeAt;rw [VH];rfl
 have r:freeS s.held=(s.held.map (·.isSome)).findIdx? λb=>!b:=by unfold freeS;rw [VH];congr 1;funext o;cases o <;> rfl
 rw [l,r];congr 1;refine zFX f.lhn λk t h=>?_;have:=f.helds k t (by rw [f.lrn];exact h);rw [Qk,Qd h,QP] at this
 cases e:s.held[k] with
 |none=>rw [e] at this;simpa using this.1
 |some p=>obtain⟨d,j⟩:=p;rw [e] at this;simpa using this.1
theorem RefF.off(b:RefF g c K wt hd lw lh lr s u):K.xr.off.n=g.n+1:=by
 have:=b.rows.off.len;rw [zAp] at this;exact this
theorem RefR.small(S:RefR R B w bs g c s K wt hd lw lh lr):lw.length<=1000/\lh.length<=64/\lr.length=c.slots/\c.slots<=64:=by
 have b:=S.fz.here;have:=S.so.len;have:=S.so.wl;have:=S.ci.slots;have:=S.ci.queue;have:=b.lrn;rw [b.lwn,b.lhn];omega
theorem RefR.waits[L:Le w w1]{s':SvD}{f:Option Addr}{c1:Nat}{b:List RReq}(S:RefR R B w bs g c s K wt hd lw lh lr)(l:B<=w.heap.size)
  (o:Bk w2 bs (refL c K ⟨f,b.length,c1⟩ hd) 98)(d:Fr (λi=>i=bs) w1 w2)(p:SvW g c s')
  (r:Fz (mutR bs K.br) (gR R w w1) w1 (RefF g c K ⟨f,b.length,c1⟩ hd b lh lr s')):RefP (gR R w w2) B w2 bs g c s'/\∀u,Le u w1->Fr R u w2:=by
 have z:=L.e.size;refine⟨S.fin z (d.mono λi _ h=>.inl h) l o ((S.runs.up (w':=w1)).fr d λg _ t h=>by cases t;exact S.ne h.symm) p r,λu v=>(Fr.fr v.e).trans (d.mono λi _ h=>h ▸ S.rs)⟩
theorem zFA{k0:Nat}{x:RqD}(S:RefR R B w bs g c s K wt hd lw lh lr)(y:s.held.getD k0 none=some (x,i))(I:B<=w.heap.size):
  Sp PP 121 #[.pointer (some ⟨bs,0,none⟩),.int .i64 (k0:Int)] w λ_ w'=>RefP (gR R w w') B w' bs g c ⟨s.wait,s.held.set k0 none⟩/\Fr (mutR bs K.br) w w':=by
 have r:=(zAo y).1;have l:=S.fz.here;have J:=S.small;have d:k0<lh.length:=by rw [l.lhn];exact r
 have e:k0<lr.length:=by rw [l.lrn];exact r
 have t:lh[k0].used=true:=by
  have:=l.helds k0 d e;rw [y] at this;exact this.1
 have D:=zLK (i:=(k0:Int)) l.fh (by omega)
 have v:dropH lh (k0:Int)=(lh.set k0 zeroH,0):=by
  unfold dropH;rw [if_neg (by omega),QW,zAq d,if_pos t]
 rw [v] at D;have L:=S.reg _ S.rj;refine eN ?_;refine rX S.cell rfl (rcall D ?_);rintro _ w1 ⟨⟨V,rfl,z⟩,W⟩;have M:=z.shape;obtain⟨A,c1,rfl⟩:=M;refine rS S.cell [.slice A (lh.set k0 zeroH).length c1] (sv1 _ _ _) λw2 o C=>?_;have o:Bk w2 bs (refL c K wt ⟨A,(lh.set k0 zeroH).length,c1⟩) 98:=o;refine rX o rfl (rbuild (cs:=enc zRun) rfl ?_);have G:=(S.runs.up (w':=w1)).fr C (λg _ O h=>by cases O;exact S.ne h.symm);refine rixO rfl G (x:=lr[k0]) (by simp) λX hgj _ _=>rstO' rfl zRun G hgj e rfl λH Q p _=>?_;have p:Fr (λi=>i=K.br) w2 H:=p.mono λi _ hi=>bjD hi;have f:Fr (mutR bs K.br) w1 H:=(C.mono λi _ hi=>.inl hi).trans (p.mono λi _ hi=>.inr hi);have T:=o.fr p S.ne
 refine⟨S.fin (lz w w1) f I T Q (S.so.set k0 none λ_ _ h=>nomatch h) (((S.fz1 (w':=w1)).and (S.fzO z (Qe _))).imp λu ⟨b,U⟩ =>
   ⟨b.rows,b.pos,b.words,b.fw,U,b.lwn,b.waits,by simp [b.lhn],by simp [b.lrn],zKW r b.helds ⟨rfl,rfl⟩⟩),?_⟩
 exact(fE w w1).trans f
theorem zLO{k0:Nat}{x:RqD}(S:RefP R B w bs g c s)(b:s.held.getD k0 none=some (x,i))(d:B<=w.heap.size):
  Sp PP 121 #[.pointer (some ⟨bs,0,none⟩),.int .i64 (k0:Int)] w λ_ w'=>RefP (gR R w w') B w' bs g c ⟨s.wait,s.held.set k0 none⟩/\Fr R w w':=by
 obtain⟨K,wt,hd,lw,lh,lr,S⟩:=S;exact(zFA S b d).mono λv w' h=>⟨h.1,h.2.mono λi _ h=>S.mut h⟩
def cumL (g:GrD) (W:Nat) (h:Hs) (i p:Nat):Nat:=((List.range i).map λk=>cntW g W p (h.getD k none) k).sum
theorem zIC(g:GrD)(W:Nat)(h:Hs)(i p:Nat):cumL g W h (i+1) p=cumL g W h i p+cntW g W p (h.getD i none) i:=by
 unfold cumL;rw [Jm,QB,XV];simp
def cumI (g:GrD) (W:Nat) (h:Hs) (i k:Nat):List Int:=(List.range W).map λp=>((if p<k then cumL g W h (i+1) p else cumL g W h i p:Nat):Int)
theorem zJP(g:GrD)(W:Nat)(h:Hs)(i k:Nat):(cumI g W h i k).length=W:=by simp [cumI]
theorem zOx{g:GrD}{W:Nat}{h:Hs}(d:k<W):(cumI g W h i k).set k ((cumL g W h i k:Int)+(cntW g W k (h.getD i none) i:Int))=cumI g W h i (k+1):=by
 unfold cumI;rw [zCr d];apply Ja;intro p _;by_cases e:p=k
 ·subst e;rw [if_pos rfl,if_pos (by omega),zIC];push_cast;rfl
 ·rw [if_neg e];by_cases b:p<k
  ·rw [if_pos b,if_pos (by omega)]
  ·rw [if_neg b,if_neg (by omega)]
theorem zOw(g:GrD)(W:Nat)(h:Hs)(i:Nat):cumI g W h i W=cumI g W h (i+1) 0:=by
 unfold cumI;apply Ja;intro p b;rw [if_pos (Q0.1 b),if_neg (by omega)]
theorem zDD(S:RefP R B w bs g c s):Sp PP 20 #[.pointer (some ⟨bs,0,none⟩)] w λv w'=>Own w.heap.size 3 w' v ((List.range c.workers).map λk=>(liveW g c.workers s.held k:Int))/\Stp w w':=by
 obtain⟨K,wt,hd,lw,lh,lr,S⟩:=S;have hW:=S.ci.workers;have a6:=S.small;have F0:=S.fz.here;have T:=S.gi.ok.n2;have a4:=S.so.len
 have U:∀(i:Nat) (hi:i<lr.length) (u:World),Le w u->SlF u (.slice lr[i].states.a lr[i].states.n lr[i].states.c) (sts1 g (s.held.getD i none) i)/\∀x∈sts1 g (s.held.getD i none) i,mayX x:=λi hi u L=>by
  have V:=S.fz u (Fr.fr L.e);have l:=V.helds i (by rw [V.lhn];have:=V.lrn;omega) hi
  cases e:s.held.getD i none with
  |none=>rw [e] at l;rw [l.2];exact⟨SlF.nil' _ _ _,λx W=>nomatch W⟩
  |some p =>
   obtain⟨d,j⟩:=p;rw [e] at l;have X:=zAo e;exact⟨l.2.2.1,λx W=>(zD1 (S.so.held d j X.2).1.q.ok T (by omega) W).1⟩
 have o:∀i,(sts1 g (s.held.getD i none) i).length<=400:=λi=>by
  cases e:s.held.getD i none with
  |none=>simp [sts1]
  |some p =>
   obtain⟨d,j⟩:=p;show (sts g d.q i j).length<=400;have hq:=(S.so.held d j (zAo e).2).1.q.ok;rw [zFZ];have:=sn_le (dir:=0) hq j;have:=sn_le (dir:=1) hq j;omega
 refine eN ?_;refine rX S.cell rfl (rmk (0:Int) rfl rfl (by omega) λt w1 O1 s1 a7=>?_)
 have hz:List.replicate c.workers (0:Int)=cumI g c.workers s.held 0 0:=by
  apply Xg
  ·simp [cumI]
  ·intro i Y h2;simp [cumI,cumL]
 rw [hz] at O1
 have y:∀i p,i<=lr.length->cumL g c.workers s.held i p<=i*400:=λi p=>by
  induction i with
  |zero=>intro _;simp [cumL]
  |succ i ih =>
   intro hi;have Y:=ih (by omega);have h2:=o i;have l:cntW g c.workers p (s.held.getD i none) i<=400:=Qw (Qv _ _) h2;rw [zIC];omega
 refine cnt TBok 5 [] 4 lr.length (λi u=>Own w.heap.size 3 u (.slice (some ⟨t,0,none⟩) c.workers c.workers) (cumI g c.workers s.held i 0)/\Stp w u) rfl rfl ⟨O1,stp⟩ ?_;rintro i G u hi ⟨O,su⟩;refine rX S.cell rfl (ite (λhlt=>?_) (λZ=>?_))
 ·have z:i<lr.length:=by (try dsimp only at hlt);omega
  have hb:=y i;have a8:=zJN c.workers (sts1 g (s.held.getD i none) i);refine dQ 19 λJ e1=>tX S.cell rfl nf (tix (S.runs.sl.up (w':=J)) (x:=lr[i]) (by simp) λb1 o1 A1 _=>tload1 (A1.cell0 rfl) nf (tX S.cell rfl nf ?_));have⟨hS,X⟩:=U i z J inferInstance;refine rcall (zLG hS (by have:=o i;omega) hW X) ?_;rintro _ u2 ⟨⟨v2,rfl,O2⟩,e2⟩;refine⟨Fr.fr e2.e,?_⟩;have q_:=O2.shape;obtain⟨a2,c2,rfl⟩:=q_;refine cnt TBok 8 [] 7 c.workers (λk M=>Own w.heap.size 3 M (.slice (some ⟨t,0,none⟩) c.workers c.workers) (cumI g c.workers s.held i k)/\Own J.heap.size 3 M (.slice a2 (cntL c.workers (sts1 g (s.held.getD i none) i)).length c2) (cntL c.workers (sts1 g (s.held.getD i none) i))/\Stp w M) rfl rfl ⟨O.up (w':=u2),O2,stp⟩ ?_;rintro k G2 M hk ⟨A,O4,s3⟩;refine ite (λC=>?_) (λH=>?_)
  ·have f:k<c.workers:=by (try dsimp only at C);omega
   have z1:=lz u J
   have I:(cumI g c.workers s.held i k)[k]? = some ((cumL g c.workers s.held i k:Nat):Int):=by
    unfold cumI;rw [zAS f,if_neg (Yc _)]
   have a0:(cntL c.workers (sts1 g (s.held.getD i none) i))[k]? = some ((cntW g c.workers k (s.held.getD i none) i:Nat):Int):=by
    unfold cntL cntW;rw [zAS f]
   have a5:t<u.heap.size:=by
    obtain⟨gq,Y,_,l⟩:=O.lt (by intro h;have:=congrArg List.length h;rw [zJP] at this;simp at this;omega);cases Y;exact l
   have a9:cntW g c.workers k (s.held.getD i none) i<=400:=Qw (Qv _ _) (o i);have b0:=hb k (by omega);refine dT (λi=>i=t) (oL [0,1,2,3,4,6,7,8,9] (.lone 5 (oL [10,11,12] .nil))) λr e4=>tixO rfl (A.up (w':=r)) I λg5 b2 _ A5=>tixO rfl (O4.up (w':=r)) a0 λg6 b3 b4 A6=>tload1 (A6.cell0 rfl) (by omega) (rload1 (A5.cell0 rfl) ⟨Fr.refl _ _,?_⟩);refine rA (tixO rfl (A.up (w':=r)) I λg7 a1 b5 _=>rstO rfl ((cumL g c.workers s.held i k:Int)+(cntW g c.workers k (s.held.getD i none) i:Int)) (A.up (w':=r)) a1 (by rw [zJP];exact f) rfl λu5 O5 Q s5 _=>?_);have Q:Fr (λi=>i=t) r u5:=Q.mono λi _ hi=>bjD hi;refine⟨Q,?_⟩;rw [zOx f] at O5;have O6:=(O4.up (w':=r)).fr Q λb hb _ h=>by omega
   exact rA ⟨rfl,f,O5,O6,stp⟩
  ·obtain rfl:k=c.workers:=by (try dsimp only at H);omega
   rw [zOw] at A;exact rA ⟨rfl,z,A,stp⟩
 ·obtain rfl:i=lr.length:=by (try dsimp only at Z);omega
  have e:cumI g c.workers s.held lr.length 0=(List.range c.workers).map λk=>(liveW g c.workers s.held k:Int):=by
   unfold cumI;apply Ja;intro p _;rw [if_neg (by omega),zEn,F0.lrn];rfl
  rw [e] at O;exact⟨O,su⟩
theorem zLP(S:RefP R B w bs g c s):Sp PP 120 #[.pointer (some ⟨bs,0,none⟩)] w λv w'=>v=.bool (overS g c s.held)/\Stp w w':=by
 have d:=id S;obtain⟨K,wt,hd,lw,lh,lr,p⟩:=d;have C:=p.ci.workers;refine eN ?_;refine rcall (zDD S) ?_;rintro _ w1 ⟨r,y⟩;have d:=r.shape;obtain⟨E,c1,rfl⟩:=d;have t:((List.range c.workers).map λk=>(liveW g c.workers s.held k:Int)).length=c.workers:=by simp
 refine cnt TBok 5 [2] 4 c.workers (λi u=>(∀k,k<i->liveW g c.workers s.held k<=c.pool)/\Stp w1 u) rfl rfl ⟨by omega,stp⟩ ?_;rintro i G u hi ⟨x,H⟩;refine ite (λhlt=>?_) (λf=>?_)
 ·have b:i<c.workers:=by (try dsimp only at hlt);omega
  have h:((List.range c.workers).map λk=>(liveW g c.workers s.held k:Int))[i]? = some (liveW g c.workers s.held i:Int):=zAS b;refine dQ 10 λz y=>tix (r.sl.up (w':=z)) h λI J A _=>tload1 (A.cell0 rfl) nf (tX p.cell rfl nf (ite (λl=>?_) (λl=>?_)))
  ·have o:overS g c s.held=true:=zB8.2 ⟨i,b,by omega⟩;exact⟨by rw [o];rfl,stp⟩
  ·exact rA ⟨rfl,b,λk L=>by
    by_cases e:k=i
    ·subst e;omega
    ·exact x k (by omega),stp⟩
 ·obtain rfl:i=c.workers:=by (try dsimp only at f);omega
  have o:overS g c s.held=false:=by
   rw [<-Vy,zB8];rintro⟨k,l,M⟩;have:=x k l;omega
  exact⟨by rw [o];rfl,stp⟩
end
end Go.W
