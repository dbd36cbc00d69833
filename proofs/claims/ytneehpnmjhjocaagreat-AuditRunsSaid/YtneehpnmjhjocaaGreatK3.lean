/-
  Proved here: parts of this claim.
  Conditions: told at each.
-/
import Derived.Shelf.Lays
import Derived.Test.YtneehpnmjhjocaaGreatProg
import Derived.Shelf.Small.Strs
import Derived.Shelf.SlLaysF0
import Derived.Shelf.SlLaysF
import Derived.Test.YtneehpnmjhjocaaGreatK2
set_option maxHeartbeats 4000000
set_option linter.unusedVariables false
set_option linter.unusedSimpArgs false
namespace Go.W
open Go
open Enc (enc)
variable {B hi i j k m n n2:Nat} {D:Nat -> Prop} {P:Program} {T:Tab} {a a' a2:Option Addr} {g:GrD} {ps:List Int} {s:List UInt8} {u u' w':World}
theorem Fr.blk'{w:World}(h:Fr D w w'){b:Nat}{o:Obj}(c:w.heap[b]? = some o)(hd:¬D b):w'.heap[b]? = some o:=by rw [h.block b (blk_lt c) hd];exact c
theorem zPY{w:World}{b o:Nat}{f:Option Nat}{v:Value}(h:w.cell? ⟨b,o,f⟩=some v):b<w.heap.size:=by
 rcases QH b w.heap.size with c|c
 ·exact c
 ·unfold World.cell? at h;rw [Jn c] at h;cases h
theorem Qt.trans{a b c:World}(h:Qt B a b)(k:Qt B b c):Qt B a c:=
 ⟨k.os.trans h.os,k.tape.trans h.tape,k.output.trans h.output,Qw h.size k.size,λi o e d=>k.block i o (h.block i o e d) d⟩
section
variable {P:Program}
structure SeqG (P:Program) (g:FuncId) (first cap:List Value) (Qi Rb:World->World->Prop) (St:World->Prop) (Nx:List (List Value)->List Value->World->Prop) (En:List (List Value)->Prop):Prop where
 out:∀(l:Nat) (J:List (List Value)->World->Prop) (Jx:World->Prop) (w:World),(∀i u u',J i u->Qi u u'->J i u')->(∀u u',Jx u->Qi u u'->Jx u') ->
  (∀i u x,Nx i x u->J i u->YieldS P l x u λb u'=>((b=true/\J (i++[x]) u')\/(b=false/\Jx u'))/\Rb u u')->J [] w->St w ->
  Sp P g (first++[yl l]++cap).toArray w λ_ w'=>(∃i,En i/\J i w')\/Jx w'
theorem rrangeG(hT:T.ok P=true)(hr:T.round=false){g:Operand}{ps:Array Tmp}{assign body:Code}{Q:KS}{F:Nat->Value}{w:World}{gf:FuncId}{first cap:List Value}{Qi Rb Rc:World->World->Prop}{St:World->Prop}{Nx:List (List Value)->List Value->World->Prop}{En:List (List Value)->Prop}
  (hg:ev F g=.func (.func gf) first.toArray cap.toArray)(b4:allLt n ps.toList=true)
  (a6:SeqG P gf first cap Qi Rb St Nx En)(b5:∀ys x u,Nx ys x u->x.length=ps.toList.length)(a7:∀u u',Qi u u'->∃D,Fr D u u')
  (I:List (List Value)->World->Prop)(L:Code->World->Prop)(hI:∀i u u',I i u->Qt w.heap.size u u'->I i u')(R:∀c u u',L c u->Qt w.heap.size u u'->L c u')
  (b6:∀i u u',w.heap.size<=u.heap.size->I i u->Qi u u'->I i u')(a8:∀c u u',w.heap.size<=u.heap.size->L c u->Qi u u'->L c u')
  (U:∀u c E u3,Qt w.heap.size u c->Rc c E->Qt w.heap.size E u3->Rb u u3)(b7:∀c u,Rc c u->∃D,Fr D c u)(b8:∀w',Ext w w'->St w')(h0:I [] w)
  (M:∀i x u,Nx i x u->(∃o,u.heap[w.heap.size]? = some o)->I i u->S P { T with round:=true } n assign
   { nrm:=λF1 u1=>Ext u u1/\(∀c,Qt w.heap.size u1 c->S P { T with round:=true } n body { nrm:=λ_ E=>I (i++[x]) E/\Rc c E,ext:=λj _ E=>L (.exit j) E/\Rc c E,ret:=λ_ E=>L .ret E/\Rc c E,pan:=λ_ _ _=>False } F1 c),ext:=λ_ _ _=>False,ret:=λ_ _=>False,pan:=λ_ _ _=>False } (rdF F ps.toList x) u)
  (V:∀i D u,En i->I i u->w.heap.size<=D->u.heap[D]? = some (.deferred (some []))->Q.nrm (markF F D) u)
  (W:∀c D u,L c u->w.heap.size<=D->u.heap[D]? = some (.deferred (some []))->match c with | .ret=>Q.ret (markF F D) u | .exit j=>Q.ext j (markF F D) u|_=>False):
  DeepS P T n (.rangeFunc g ps assign body) Q F w:=by
 rw [zAE];intro md a9 a X;have b9:md=none:=by cases md with|none=>rfl|some _=>rw [hr] at a9;cases a9
 subst b9;refine wpIn_rangeFunc ?_;intro fn _;have c0:(fw none).round=none:=rfl;rw [c0];obtain⟨rec,l⟩:∃rec:LoopState->Option Code->Loop,rec=λst pe=>{ state:=st,pending:=pe,fn,tmps:=a.tmps,params:=ps,assign,body,defers:=w.heap.size }:=⟨_,rfl⟩;obtain⟨y,N⟩:∃y,(w.alloc (.deferred (some []))).alloc (.loop (rec .ready none))=y:=⟨_,rfl⟩;have b0:Ext w y:=by rw [<-N];exact(Ext.alloc w _).t (Ext.alloc _ _)
 have c1:y.heap[w.heap.size+1]? = some (.loop (rec .ready none)):=by
  rw [<-N];have:=Xd (w.alloc (.deferred (some []))) (.loop (rec .ready none));rwa [World.size_alloc] at this
 have c2:y.heap[w.heap.size]? = some (.deferred (some [])):=by
  rw [<-N];exact(VD _ _ _ (by simp)).trans (Xd w _)
 have c3:a.eval g=.func (.func gf) first.toArray cap.toArray:=by rw [X.eval];exact hg
 have G:=a6.out (w.heap.size+1)
  (λi u=>I i u/\u.heap[w.heap.size+1]? = some (.loop (rec .ready none))/\u.heap[w.heap.size]? = some (.deferred (some [])))
  (λu=>∃c,L c u/\u.heap[w.heap.size+1]? = some (.loop (rec .done (some c)))/\u.heap[w.heap.size]? = some (.deferred (some []))) y
  (λi u u' h q=>by obtain⟨D,e⟩:=a7 u u' q;exact⟨b6 i u u' (by have:=blk_lt h.2.1;omega) h.1 q,e.nc _ _ h.2.1 rfl,e.nc _ _ h.2.2 rfl⟩)
  (λu u' h q=>by obtain⟨D,e⟩:=a7 u u' q;obtain⟨c,z,p,H⟩:=h;exact⟨c,a8 c u u' (by have:=blk_lt p;omega) z q,e.nc _ _ p rfl,e.nc _ _ H rfl⟩)
  ?_ ⟨hI [] w y h0 (.of_ext b0),c1,c2⟩ (b8 y b0)
 ·refine⟨w.heap.size+1,[{ target:=.collected w.heap.size,args:=#[] }],y,{ target:=.fn (.func gf) cap.toArray,args:=first.toArray++#[yl (w.heap.size+1)] },y,gf,
   (first++[yl (w.heap.size+1)]++cap).toArray,y,?_,?_,λ_ _=>trivial,?_,λh=>by simp [fw,Fence.wide] at h,?_⟩
  ·rw [<-N,l];exact run_enterLoop_outer _ _ _ _ _
  ·simp only [resolve,c3];simp [Deferred.ofValue,yl,Act.eval]
  ·have:(callFunc gf (first++[yl (w.heap.size+1)]++cap).toArray).run P y=.ok (.enter gf (first++[yl (w.heap.size+1)]++cap).toArray) y:=zAW G.can y;simpa [invoke] using this
  ·refine zEg none (G.calls.mono ?_);intro e u he
   have r:∀u:World,Rel n (markF F w.heap.size) { a with defers:=[{ target:=.collected w.heap.size,args:=#[] }]++a.defers }:=λ_=>by
    refine⟨X.size,X.le,?_,λt ht=>?_⟩
    ·show _::a.defers=decD (markF F w.heap.size 4294967296);unfold markF upd;rw [show Nat.beq 4294967296 4294967296=true from rfl,cond_true,X.defers];exact(zDn _ _ _ rfl).symm
    ·have hb:Nat.beq t 4294967296=false:=by
      cases Y:Nat.beq t 4294967296 with
      |false=>rfl
      |true=>exact absurd (QD Y) ht
     show a.tmps.getD t undef=markF F w.heap.size t;unfold markF upd;rw [hb];exact X.get t ht
   have Z:agree (wr (.rangeFunc g ps assign body)) F (markF F w.heap.size):=by
    intro t ht;unfold markF upd;have:Nat.beq t 4294967296=false:=ht;rw [this];rfl
   cases e with
   |returned v =>
    rcases he with ⟨ys,c4,z,p,H⟩|⟨c,z,p,H⟩
    ·refine⟨none,u.putObj (w.heap.size+1) (.loop { rec .ready none with state:=.exhausted }),?_,?_⟩
     ·have:=run_endLoop (P:=P) p (by rw [l];simp);rw [l] at this ⊢;exact this
     ·exact⟨_,r u,Z,V _ _ _ c4 (hI _ _ _ z (Qt.put p rfl (by omega))) (Qe _) ((Jk (by omega)).trans H)⟩
    ·refine⟨some c,u.putObj (w.heap.size+1) (.loop { rec .done (some c) with state:=.exhausted }),?_,?_⟩
     ·have:=run_endLoop (P:=P) p (by rw [l];simp);rw [l] at this ⊢;exact this
     ·have hs:=W c w.heap.size _ (R _ _ _ z (Qt.put (o':=.loop { rec .done (some c) with state:=.exhausted }) p rfl (by omega))) (Qe _) ((Jk (by omega)).trans H);cases c <;> first|exact hs.elim|skip
      ·exact wpIn_exit ⟨_,r u,Z,hs⟩
      ·exact wpIn_ret ⟨_,r u,Z,hs⟩
   |panicked c=>exact he.elim
   |outgrown=>exact he.elim
 ·-- one round
  intro i u x hx hh;obtain⟨hi,hl,hk⟩:=hh;have hlt:=blk_lt hl;have b1:=b5 i x u hx;have A:rec .ready none = { state:=.ready,pending:=none,fn,tmps:=a.tmps,params:=ps,assign,body,defers:=w.heap.size }:=by rw [l]
  refine⟨rec .ready none,hl,by rw [A];simpa using b1,?_⟩
  have c5:(((rec .ready none).params.zip x.toArray).foldl (λtmps (t,a)=>tmps.setIfInBounds t a) (rec .ready none).tmps)=(ps.toList.zip x).foldl (λt (s,v)=>t.setIfInBounds s v) a.tmps:=by
   rw [A];show (ps.zip x.toArray).foldl _ a.tmps=_;rw [<-Array.foldl_toList];simp
  have r:=zFJ X.le ps.toList x F a X (zEe b4) b1;have hR:=M i x u hx ⟨_,hk⟩ hi;have e1:(rec .ready none).fn=fn:=by rw [A]
  have e2:(rec .ready none).assign=assign:=by rw [A]
  have e3:(rec .ready none).body=body:=by rw [A]
  rw [c5,e1,e2,e3];have b2:({ T with round:=true }:Tab).ok P=true:=hT
  have J:RoundIn (fw none) 0 P (w.heap.size+1) fn ((ps.toList.zip x).foldl (λt (s,v)=>t.setIfInBounds s v) a.tmps) assign body u
    (RetP (λv w'=>∃b,v=.bool b/\(((b=true/\(I (i++[x]) w'/\w'.heap[w.heap.size+1]? = some (.loop (rec .ready none))/\w'.heap[w.heap.size]? = some (.deferred (some [])))) \/
     (b=false/\∃c,L c w'/\w'.heap[w.heap.size+1]? = some (.loop (rec .done (some c)))/\w'.heap[w.heap.size]? = some (.deferred (some []))))/\Rb u w')) (λ_ _=>False)):=by
   refine roundIn_of_wpIn trivial ?_;rw [fw_in];refine Jb ?_ (zBR b2 assign _ _ _ hR (some (w.heap.size+1)) rfl _ r);intro e a1 u1 Y;cases e <;> simp only [KS.lift,Exit.then] at Y ⊢
   case normal =>
    obtain⟨F1,z,_,hE,hb⟩:=Y;have O:=hE.nc _ _ hl rfl;have c6:=hE.nc _ _ hk rfl;refine⟨_,run_beginRound O (by rw [A]),?_⟩;have b3:=blk_lt O;have c7:(u1.putObj (w.heap.size+1) (.loop { rec .ready none with state:=.busy })).heap[w.heap.size+1]? = some (.loop { rec .ready none with state:=.busy }):=VX b3;have c8:(u1.putObj (w.heap.size+1) (.loop { rec .ready none with state:=.busy })).heap[w.heap.size]? = some (.deferred (some [])):=(Jk (by omega)).trans c6;have a0:=(Qt.of_ext (B:=w.heap.size) hE).trans (Qt.put (o':=.loop { rec .ready none with state:=.busy }) O rfl (by omega));have a4:=hb _ (Qt.put (o':=.loop { rec .ready none with state:=.busy }) O rfl (by omega));refine Jb ?_ (zBR b2 body _ _ _ a4 (some (w.heap.size+1)) rfl a1 z)
    have fin:∀(d:Option Code) (C:World),Rc (u1.putObj (w.heap.size+1) (.loop { rec .ready none with state:=.busy })) C ->
      (Instr.endRound (w.heap.size+1) d).run P C=.ok (.bool d.isNone) (C.putObj (w.heap.size+1) (.loop (rec (if d.isNone then .ready else .done) d))) /\
      (Qt w.heap.size C (C.putObj (w.heap.size+1) (.loop (rec (if d.isNone then .ready else .done) d)))) /\
      (C.putObj (w.heap.size+1) (.loop (rec (if d.isNone then .ready else .done) d))).heap[w.heap.size+1]? = some (.loop (rec (if d.isNone then .ready else .done) d)) /\
      (C.putObj (w.heap.size+1) (.loop (rec (if d.isNone then .ready else .done) d))).heap[w.heap.size]? = some (.deferred (some [])):=λd C f=>by
     obtain⟨D,f⟩:=b7 _ _ f;have a5:=f.nc _ _ c7 rfl;have:=run_endRound (P:=P) d a5;refine⟨?_,Qt.put a5 rfl (by omega),VX (blk_lt a5),(Jk (by omega)).trans (f.nc _ _ c8 rfl)⟩;rw [l] at this ⊢;exact this
    intro e a3 C hp;cases e <;> simp only [KS.lift,roundPost] at hp ⊢
    case normal =>
     obtain⟨_,_,_,K,f⟩:=hp;obtain⟨z,p,H,h4⟩:=fin none C f;exact⟨_,_,z,_,rfl,.inl ⟨rfl,hI _ _ _ K p,H,h4⟩,U _ _ _ _ a0 f p⟩
    case exit j =>
     obtain⟨_,_,_,K,f⟩:=hp;obtain⟨z,p,H,h4⟩:=fin (some (.exit j)) C f;exact⟨_,_,z,_,rfl,.inr ⟨rfl,_,R _ _ _ K p,H,h4⟩,U _ _ _ _ a0 f p⟩
    case ret =>
     obtain⟨_,_,_,K,f⟩:=hp;obtain⟨z,p,H,h4⟩:=fin (some .ret) C f;exact⟨_,_,z,_,rfl,.inr ⟨rfl,_,R _ _ _ K p,H,h4⟩,U _ _ _ _ a0 f p⟩
    case panic c=>obtain⟨_,_,_,h⟩:=hp;exact h.elim
   case exit j=>obtain⟨_,_,_,h⟩:=Y;exact h.elim
   case ret=>obtain⟨_,_,_,h⟩:=Y;exact h.elim
   case panic c=>obtain⟨_,_,_,h⟩:=Y;exact h.elim
  exact J
theorem rremE{kd:IntKind}{x y z:Int}{k:Value->World->Prop}{w:World}(h0:0<=x)(b:0<y)(c:x % y=z)(d:k (.int kd z) w):RemS kd x y k w:=rrem h0 b (c ▸ d)
theorem loop0(d:T.ok P=true)(m:Nat)(keep:List Nat)(I:World->Prop)(b:World->Nat){body:Code}{Q:KS}{F:Nat->Value}{w:World}(c:okB m keep [] body=true)(h0:I w)
  (e:∀g w,I w->S P T n body { Q with nrm:=λ_ w'=>I w'/\b w'<b w } (hdF m keep [] g F) w):DeepS P T n (.loop body) Q F w:=
 loopL d m keep [] (λ_ u=>I u) (λ_ u=>b u) c h0 λvs g u f h=>by
  have:vs=[]:=Qn f;subst this;exact e g u h
end
structure Kp (X:Nat->Prop) (u u':World):Prop where
 k:∀b o,u.heap[b]? = some o->isRec o=false->X b->u'.heap[b]? = some o
theorem Kp.of_ext{X:Nat->Prop}(e:Ext u u'):Kp X u u':=⟨λ_ _ h _ _=>e.blk' h nf⟩
theorem Kp.of_qt{X:Nat->Prop}(q:Qt B u u'):Kp X u u':=⟨λb o h c _=>q.block b o h (.inr c)⟩
theorem Kp.trans{X:Nat->Prop}{a b c:World}(h:Kp X a b)(k:Kp X b c):Kp X a c:=⟨λi o f d e=>k.k i o (h.k i o f d e) d e⟩
theorem Kp.of_fr{X:Nat->Prop}(f:Fr D u u')(hd:∀i,X i->¬D i):Kp X u u':=⟨λb o h _ c=>f.blk' h (hd b c)⟩
theorem Bk.kp{X:Nat->Prop}{b:Nat}{cs:List Value}{e:TypeId}(k:Bk u b cs e)(h:Kp X u u')(c:X b):Bk u' b cs e:=⟨h.k _ _ k.h rfl c⟩
theorem SlF.kp{α:Type}[Enc α]{X:Nat->Prop}{v:Value}{l:List α}(h:SlF u v l)(k:Kp X u u')(y:l≠[]->∀b,Value.blk v=some b->X b):SlF u' v l:=by
 obtain⟨a,c,t,p,q⟩:=h;refine⟨a,c,t,p,?_⟩;by_cases w:l=[]
 ·exact .inl w
 rcases q with q|⟨b,o,x,z⟩
 ·exact .inl q
 ·refine .inr ⟨b,o,x,λj v A=>?_⟩;have d:=z j v A;have r:=y w b (by rw [t,x];rfl);have hlt:b<u.heap.size:=zPY d;obtain⟨f,e⟩:∃f,u.heap[b]? = some f:=⟨_,QT hlt⟩
  have C:isRec f=false:=by
   unfold World.cell? at d;rw [e] at d;cases f <;> first|rfl|(simp at d;done)
  have E:=k.k b f e C r;unfold World.cell? at d ⊢;rw [e] at d;rw [E];exact d
def cellN (b:Nat) (u:World):Nat:=match u.cell? ⟨b,0,none⟩ with|some (.int _ x)=>x.toNat|_=>0
theorem zJ9{b:Nat}{kd:IntKind}{x:Int}{cs:List Value}{e:TypeId}(B:Bk u b (.int kd x::cs) e):cellN b u=x.toNat:=by
 have:u.cell? ⟨b,0,none⟩=some (.int kd x):=B.at.cell0 rfl;unfold cellN;rw [this]
section
variable {P:Program} {kt:TypeId} {κ:Type} [DecidableEq κ] [M:MKey P kt κ] {k:Value->World->Prop} {pn:List PanicEntry->World->Prop} {w:World}
theorem rnx{o:Oper}{F:Nat->Value}{s:Sem Value}(e:execOp (ev F) o=(do let v <-s;pure (Next.value v)))(h:SemV P s k pn w):NextS P (execOp (ev F) o) k pn w:=by
 rw [zBi,e,run_v];rw [zC1] at h
 cases b:s.run P w with
 |ok v w'=>rw [b] at h;exact h
 |halt x w'=>rw [b] at h;cases x <;> exact h
theorem MapB.lt{w:World}{b:Nat}{m:List (κ×Value)}(h:MapB P kt w b m):b<w.heap.size:=by
 obtain⟨⟨e,c,d,_⟩,_⟩:=h;exact blk_lt d
theorem zHN{α:Type}[Enc α]{w:World}{b B':Nat}{e:TypeId}{v:Value}{l:List α}{o:Obj}(d:w.heap[b]? = some o)(h:∀c t z,o≠.cells c t z)(O:Own B e w v l):¬ownD B' v b:=by
 rintro⟨x,p,f⟩;rcases O with ⟨_,a,rfl⟩|O
 ·exact f a rfl
 ·rcases O.2 with ⟨rfl,_⟩|⟨g,cap,q,rfl,_,r,_⟩
  ·exact f none rfl
  ·have:g=b:=by simpa [Value.blk] using p
   subst this;rw [r] at d;cases d;exact h _ _ _ rfl
theorem ItB.fro{α:Type}[Enc α]{w:World}{r b:Nat}{rest:List (κ×Value)}{B':Nat}{e:TypeId}{v:Value}{l:List α}(h:ItB P kt w r b rest)(O:Own B e w v l)(f:Fr (ownD B' v) w w'):ItB P kt w' r b rest:=by
 have d:=h;obtain⟨Z,c,s,q,o,p,t⟩:=d;exact h.fr f (zHN p (by simp) O) (zHN o (by simp) O)
theorem zDf{κ:Type}[DecidableEq κ](x:κ)(v:Value):∀(m:List (κ×Value)),(setM x v m).length<=m.length+1
 |[]=>by simp [setM]
 |(b,c)::r=>by
  unfold setM;split
  ·simp
  ·have:=zDf x v r;simp;omega
end
theorem zKr{p:Nat->Prop}(h:∃n,p n):∃n,p n/\∀m,p m->n<=m:=by
 obtain⟨n,d⟩:=h
 induction n using Nat.strongRecOn with
 |ind n e =>
  by_cases c:∃m,m<n/\p m
  ·obtain⟨m,hlt,b⟩:=c;exact e m hlt b
  ·exact⟨n,d,λm b=>by
    rcases QH m n with h|h
    ·exact(c ⟨m,h,b⟩).elim
    ·exact h⟩
open Classical in
/-- the least of these numbers -/
noncomputable def leastN (p:Nat->Prop):Nat:=if h:∃n,p n then (zKr h).choose else 0
theorem zGw{p:Nat->Prop}(h:∃n,p n):p (leastN p)/\∀m,p m->leastN p<=m:=by
 unfold leastN;rw [dif_pos h];exact(zKr h).choose_spec
section
variable {P:Program} {T:Tab} {n:Nat}
theorem loopLG(d:T.ok P=true)(m:Nat)(keep slots:List Nat)(I:Nat->List Value->World->Prop){body:Code}{Q:KS}{F:Nat->Value}{w:World}(c:okB m keep slots body=true)(h0:∃n,I n (mapF F slots) w)
  (e:∀i vs g w,vs.length=slots.length->I i vs w->S P T n body { Q with nrm:=λf w'=>∃b,b<i/\I b (mapF f slots) w' } (hdF m keep (zipS slots vs) g F) w):DeepS P T n (.loop body) Q F w:=
 loopL d m keep slots (λvs u=>∃i,I i vs u) (λvs u=>leastN λi=>I i vs u) c h0 λvs g u l o=>by
  obtain⟨p,_⟩:=zGw o;refine S_mono body _ _ _ _ (e _ vs g u l p) (λG w' _ h=>?_) (λ_ _ _ _ h=>h) (λ_ _ _ h=>h) (λ_ _ _ _ h=>h);obtain⟨b,hlt,hi⟩:=h;exact⟨⟨b,hi⟩,Nat.lt_of_le_of_lt ((zGw ⟨b,hi⟩).2 b hi) hlt⟩
theorem loop0G(d:T.ok P=true)(m:Nat)(keep:List Nat)(I:Nat->World->Prop){body:Code}{Q:KS}{F:Nat->Value}{w:World}(b:okB m keep [] body=true)(h0:∃n,I n w)
  (e:∀i g w,I i w->S P T n body { Q with nrm:=λ_ w'=>∃c,c<i/\I c w' } (hdF m keep [] g F) w):DeepS P T n (.loop body) Q F w:=
 loopLG d m keep [] (λi _ u=>I i u) b h0 λi vs g u f h=>by
  have:vs=[]:=Qn f;subst this;exact e i g u h
theorem loop1G(h:T.ok P=true)(m:Nat)(keep:List Nat)(b:Nat)(I:Nat->Value->World->Prop){body:Code}{Q:KS}{F:Nat->Value}{w:World}(c:okB m keep [b] body=true)(h0:∃n,I n (F b) w)
  (l:∀i e g w,I i e w->S P T n body { Q with nrm:=λo w'=>∃f,f<i/\I f (o b) w' } (hdF m keep [(b,e)] g F) w):DeepS P T n (.loop body) Q F w:=
 loopLG h m keep [b] (λi vs u=>match vs with|[v]=>I i v u|_=>False) c h0 λi vs g u p d=>by
  match vs,d with
  |[v],d=>exact l i v g u d
end
def isIt:Obj->Bool
 |.mapIter ..=>true
 |_=>false
abbrev ItQ (B:Nat) (u u':World):Prop:=Fr (λi=>B<=i/\∃o,u.heap[i]? = some o/\isIt o=true) u u'
theorem Own.itq{α:Type}[Enc α]{C:Nat}{e:TypeId}{v:Value}{l:List α}(h:Own C e u v l)(q:ItQ B u u'):Own C e u' v l:=by
 rcases h with ⟨b,d⟩|h
 ·exact .inl ⟨b,d⟩
 ·rcases h.2 with ⟨rfl,b⟩|⟨g,cap,f,rfl,p,c,rest⟩
  ·exact .inr ⟨h.1,.inl ⟨rfl,b⟩⟩
  ·exact .inr ⟨h.1,.inr ⟨g,cap,f,rfl,p,q.blk c (λ⟨_,o,b,d⟩=>by rw [c] at b;cases b;cases d),rest⟩⟩
theorem ItB.itq{kt:TypeId}{κ:Type}[DecidableEq κ][M:MKey P kt κ]{w:World}{r b:Nat}{rest:List (κ×Value)}(h:ItB P kt w r b rest)(f:Fr (λi=>i=r) w w')(c:B<=r):ItQ B w w':=
 f.mono λi _ hi=>by
  subst hi;obtain⟨Z,e,s,l,o,d,p⟩:=h;exact⟨c,_,d,rfl⟩
theorem Gw.dr{w:World}(h:Gw w w'):w.drawn<=w'.drawn:=by
 obtain⟨q,os,rfl⟩:=h;simp [World.drewN,Go.Sort.grow]
theorem Gw.ofE{w:World}(h:Ext w w')(hd:w.drawn<=w'.drawn):Gw w w':=by
 refine⟨w'.drawn - w.drawn,w'.heap.extract w.heap.size w'.heap.size,?_⟩;have b:=h.os;have c:=h.tape;have d:=h.output
 have e:w'.heap=w.heap++w'.heap.extract w.heap.size w'.heap.size:=by
  apply Array.ext_getElem?;intro i;rcases QH i w.heap.size with hi|hi
  ·rw [Xn hi];exact h.block i hi nf
  ·rw [Array.getElem?_append_right hi];simp only [Array.getElem?_extract];have:=h.size;split
   ·congr 1;omega
   ·rw [Jn (by omega)]
 cases w;cases w';simp only [World.drewN,Go.Sort.grow,World.mk.injEq] at *;refine⟨e,c,by omega,b,d⟩
section
variable {P:Program} {k:Value->World->Prop} {pn:List PanicEntry->World->Prop} {w:World}
theorem rstoD{t:TypeId}[f:Size P t n]{x:World}{b off:Nat}{cs:List Value}{e:TypeId}[B:Bk x b cs e][L:Le x w]{v:Value}{vs:List Value}(h:v.cells.toList=vs)(l:vs.length=n)(c:Nat.ble (off+n) cs.length=true)(o:∀u∈vs,u.oneCell'=true)
  (p:∀w',Bk w' b (splice cs off vs) e->Fr (λi=>i=b) w w'->w'.heap.size=w.heap.size->w'.drawn=w.drawn->k undef w'):SemU P (Instr.storeAt t (.pointer (some ⟨b,off,none⟩)) v) k pn w:=
 have d:=Bk.up (w:=w) B
 SemU.of (zM1 f d h l (Vf c) o) (p _ ⟨by simpa using setRow_heap w b _ _ e _ d⟩ (Fr.setRow w b _) (by simp) (by rfl))
variable {α:Type} [Enc α]
theorem rclr{t ty e:TypeId}{z:Value}{sz E:Nat}[L:SlT P t e][Q:Elem P e z sz E](x:α)(F:Enc.sz α=sz)(M:z.cells.toList=enc x){v:Value}{l:List α}{b R:Nat}(lo:Nat)(C:Own B e w v l)
  (hd:b=0\/∃g,Value.blk v=some g/\a'=some ⟨g,lo*sz,none⟩)(G:lo+b<=l.length)
  (N:∀w',Own B e w' v (l.take lo++List.replicate b x++l.drop (lo+b))->Fr (ownD B v) w w'->k (.tuple #[]) w'):SemV P (Builtin.clear_ #[t] ty #[.slice a' b R]) k pn w:=by
 subst F;rcases X0 b with h0|h0
 ·subst h0;have o:l.take lo++List.replicate 0 x++l.drop (lo+0)=l:=by simp
  refine SemV.of (v:=.tuple #[]) (w':=w) ?_ (N w (by rw [o];exact C) (Fr.refl _ w));cases a' <;> simp [Builtin.clear_,run_underlying L.h]
 ·rcases hd with hd|⟨g,H,rfl⟩
  ·omega
  obtain⟨m,rfl⟩:∃m,b=m+1:=⟨b - 1,by omega⟩;have d:l≠[]:=by intro h0;subst h0;simp at G
  have I:(flat (List.replicate (m+1) x)).length=(m+1)*Enc.sz α:=by rw [zAl];simp
  have p:lo*Enc.sz α+(flat (List.replicate (m+1) x)).length<=l.length*Enc.sz α:=by
   rw [I,<-Jo];exact Ji _ (by omega)
  have q:splice (flat l) (lo*Enc.sz α) (flat (List.replicate (m+1) x))=flat (l.take lo++List.replicate (m+1) x++l.drop (lo+(m+1))):=by
   simp only [flat_append,zCt,zCs,splice,zAl,List.length_replicate,<-Jo]
  obtain⟨f,c,r,S⟩:=C.stored (l':=l.take lo++List.replicate (m+1) x++l.drop (lo+(m+1))) (vs:=flat (List.replicate (m+1) x)) H d (by simp;omega) p q;have y:=run_storeCells_at P g (lo*Enc.sz α) e (flat (List.replicate (m+1) x)) 0 f w c (by simpa using r) (zC7 _);simp only [Xy] at y;have J:z.cells.size=Enc.sz α:=by rw [<-Enc.len x,<-M];simp
  have K:(Builtin.zeroCells z.cells (m+1)).toList=flat (List.replicate (m+1) x):=by
   rw [<-zJd z.cells x M (m+1)];unfold Builtin.zeroCells madeCells;rw [J]
  have O:B<=g:=by obtain⟨V,A,O,_⟩:=C.lt d;rw [H] at A;cases A;exact O
  refine SemV.of (v:=.tuple #[]) (w':=w.setRow g (splice f.toList (lo*Enc.sz α) (flat (List.replicate (m+1) x))).toArray) ?_ (N _ (S _ (setRow_heap w g f _ e _ c)) ((Fr.setRow w g _).mono λj _ U=>⟨by omega,by rw [U];exact H,C.not0 d⟩));simp only [Builtin.clear_];simp [y,splice,run_underlying L.h,zLg Q,K]
theorem rappE{t ty e:TypeId}{z:Value}{sz d:Nat}[p:SlT P t e][F:Elem P e z sz d]{v x:Value}{l m:List α}(q:Enc.sz α=sz/\z.cells.size=sz)
  (o:Own B e w v l)(A:SlF w x m)(G:B<=w.heap.size)(H:(l.length+m.length)*d<=140737488355328/\l.length+m.length<=9223372036854775807)
  (C:∀c w',Own B e w' c (l++m)->Fr (ownD B v) w w'->(Value.blk c=Value.blk v\/(Value.blk c=some w.heap.size/\w.heap.size<w'.heap.size))->k c w'):SemV P (Builtin.append_ #[t,t] ty #[v,x]) k pn w:=by
 by_cases b:m=[]
 ·subst b;obtain⟨i,hi,N,Q,I⟩:=info_parts F.h;obtain⟨r,R,rfl,J,S⟩:=A;refine SemV.of (v:=v) (w':=w) ?_ (C v w (by rw [QE];exact o) (Fr.refl _ w) (.inl rfl));rcases o with ⟨rfl,a,rfl⟩|o
  ·cases r <;> cases a <;> simp [Builtin.append_,run_underlying p.h,sizeOf,typeInfo,hi,Builtin.lenOf,Builtin.firstCells,loadCells,loadCellsFrom,storeCells]
  ·rcases o.2 with ⟨rfl,U⟩|⟨g,cap,K,rfl,L,V,y,_⟩
   ·cases r <;> simp [Builtin.append_,run_underlying p.h,sizeOf,typeInfo,hi,Builtin.lenOf,Builtin.firstCells,loadCells,loadCellsFrom]
   ·cases r <;> simp [Builtin.append_,run_underlying p.h,sizeOf,typeInfo,hi,Builtin.lenOf,Builtin.firstCells,y,storeCells,loadCells,loadCellsFrom]
 ·exact rappD q o A b G H λc w' O f h=>C c w' O f (h.imp (λh=>h) λh=>⟨h,by
   obtain⟨g,E,_,M⟩:=O.lt (by simp [b]);rw [h] at E;cases E;exact M⟩)
theorem rnclr{o:Oper}{F:Nat->Value}{t:TypeId}{x:Operand}{v:Value}(b:o.op=.call { callee:=.builtin .clear,args:=#[x],argTypes:=#[t] })(c:ev F x=v)(h:SemV P (Builtin.clear_ #[t] o.type #[v]) k pn w):NextS P (execOp (ev F) o) k pn w:=
 rnx (s:=Builtin.clear_ #[t] o.type #[v]) (by
  unfold execOp;simp only [b,resolve,pure_bind,invoke];simp only [Xi,QS,JP,c];rfl) h
end
open Go Go.Proofs
set_option maxRecDepth 10000
section
variable {P:Program} {kt:TypeId} {κ:Type} [DecidableEq κ] [M:MKey P kt κ] {k:Value->World->Prop} {pn:List PanicEntry->World->Prop} {w:World}
theorem rlookN{t e:TypeId}{z:Value}{sz c:Nat}[p:MapT P t kt e][q:Elem P e z sz c]{b:Nat}{m:List (κ×Value)}{d:Value}(h:MapL P kt w b m)(x:κ)(f:d=M.val x)(l:getM m x=none)(o:k (.tuple #[z,.bool false]) w):SemV P (Instr.lookup t (.map (some b)) d true) k pn w:=
 rlook2 h x f (by rw [l];exact o)
theorem rlookS{t e:TypeId}{z:Value}{sz c:Nat}[p:MapT P t kt e][q:Elem P e z sz c]{b:Nat}{m:List (κ×Value)}{d:Value}(h:MapL P kt w b m)(x:κ)(f:d=M.val x){v:Value}(l:getM m x=some v)(o:k (.tuple #[v,.bool true]) w):SemV P (Instr.lookup t (.map (some b)) d true) k pn w:=
 rlook2 h x f (by rw [l];exact o)
end
theorem zLL{x:StD}{w:World}:Sp PP 270 #[agg x] w λv w'=>Tells (mayX x) v/\Stp w w':=by
 refine eN ?_;refine rbx λb w1 n1 d=>rG d x.key (ral λA C n2 y=>rE y x.key λz c e _=>?_);have c:Bk z A (enc x.key) 209:=c;have G:Stp w z:=n2.st e;have d:=(d.mv (w:=C)).fr e (by have:=n1.b;have:=n1.s;have:=n2.b;omega);clear y e;refine rX c rfl (ite (λh=>?_) (λh=>⟨.f λm=>h m.1.1,stp⟩));refine rX c rfl (ite (λl=>?_) (λl=>⟨.f λm=>l m.1.2.1,stp⟩));refine rX c rfl (ite (λE=>?pos) (λE=>?neg))
 case' neg =>
  refine rX c rfl (ite (λF=>?one) (λF=>⟨.f λm=>by have:=m.1.2.2.1;omega,stp⟩))
 all_goals
  refine rX c rfl (ite (λo=>?_) (λo=>⟨.f λm=>o m.1.2.2.2.1,stp⟩));refine rX c rfl (ite (λp=>?_) (λp=>⟨.f λm=>p m.1.2.2.2.2,stp⟩));refine rX d rfl (ite (λq=>?_) (λq=>⟨.f λm=>q m.2.1,stp⟩));refine rX d rfl (ite (λr=>?_) (λr=>⟨.f λm=>r m.2.2,stp⟩));exact⟨.t ⟨⟨h,l,by omega,o,p⟩,q,r⟩,stp⟩
theorem zCC{c:Nat}{l:List StD}{w:World}(h:SlF w (.slice a n c) l)(I:l.length<=1000000):Sp PP 186 #[.slice a n c] w λv w'=>Tells (∀x∈l,mayX x) v/\Stp w w':=by
 have p:=h.len;obtain rfl:=p;refine eN ?_;refine cN 7 [2,4] 7 l.length (λk u=>(∀x∈l.take k,mayX x)/\Stp w u) ⟨by simp,stp⟩ ?_;rintro k g u J ⟨b,e⟩;refine ite (λhlt=>?_) (λz=>?_)
 ·have d:k<l.length:=by omega
  refine rix (h.up (w':=u)) (x:=l[k]) (by simp) λK L A=>rloadA A rfl (ral λC E n2 F=>rE F (l[k]) λy q G _=>?_);have q:Bk y C (enc l[k]) 211:=q;have M:Stp w y:=⟨Fr.st (lE w E) G λi hi=>by subst hi;exact n2.lo⟩;refine rG q (l[k]) (rcall zLL ?_);rintro _ N ⟨⟨rfl,r⟩|⟨rfl,r⟩,O⟩
  ·refine rA ⟨rfl,d,λx o=>?_,stp⟩;rw [take_add d] at o;have p:=Qf.1 o;rcases p with o|o
   ·exact b x o
   ·rw [Qc.1 o];exact r
  ·exact⟨.f λH=>r (H _ (Qa d)),stp⟩
 ·have p:k=l.length:=by omega
  obtain rfl:=p;rw [Qg] at b;exact⟨.t b,e⟩
theorem zIq{x y:StD}{w:World}:Sp PP 341 #[agg x,agg y] w λv w'=>Tells (x.d<y.d) v/\Stp w w':=by
 refine eN ?_;refine rbx λb w1 n1 c=>rbx λl o n2 e=>rX c rfl (rX e rfl ?_);refine ite (λh=>⟨.t h,stp⟩) (λh=>⟨.f h,stp⟩)
def cfM (a b:StD):Int:=orI [cmpI a.key.slot b.key.slot,cmpI a.key.dir b.key.dir,cmpI a.key.v b.key.v]
theorem zF1(a b:StD):cfM a b<0↔lessK a.key b.key:=by
 unfold cfM lessK;rw [or_neg,or_neg,or_neg];have:=or_nil;constructor
 ·rintro(h|⟨h,c|⟨c,d|⟨_,d⟩⟩⟩)
  ·exact .inl h
  ·exact .inr ⟨h,.inl c⟩
  ·exact .inr ⟨h,.inr ⟨c,d⟩⟩
  ·exact absurd d this
 ·rintro(h|⟨h,c|⟨c,d⟩⟩)
  ·exact .inl h
  ·exact .inr ⟨h,.inl c⟩
  ·exact .inr ⟨h,.inr ⟨c,.inl d⟩⟩
theorem zMx:Go.Sort.SWO (ltOf cfM):=swo_of (λa b=>lessK a.key b.key) zF1 (λx h=>zAS h rfl) (λ_ _ _=>zCk) (λx y z h k=>by unfold lessK at *;omega)
theorem zFk{x y:StD}{w:World}:Sp PP 343 #[agg x,agg y] w λv w'=>v=.int .i64 (cfM x y)/\Gw w w':=by
 refine eN ?_;refine rbx λbx w1 n1 R=>rbx λE A n2 S=>?_;have d2:=(n1.gw.trans n2.gw).dr;have l1:bx<A.heap.size:=(R.mv (w:=A)).lt;have l2:E<A.heap.size:=S.lt;refine drawRE TBok mixed (λi=>A.heap.size<=i) (.one 0 (.one 1 (.one 2 (.one 3 (.duo 4 (.one 5 (.one 6 (.one 7 .nil))) 5 (.one 4 (.one 6 (.one 7 .nil)))))))) (by kernel_rfl) λC V U=>?_;have l3:=V.e.size;refine tG R x.key (by omega) (tG S y.key (by omega) ?_);refine⟨?_,?_⟩
 ·refine ral λF W f r=>⟨Fr.fr f.e,?_⟩;refine ral λG l h t=>⟨Fr.fr h.e,?_⟩;have H:=f.b;have I:=f.s;have J:=h.b;have K:=h.s;refine rstoD (B:=r.mv (w:=l)) (vs:=enc x.key) rfl rfl rfl (Enc.one _) λL c o _ X=>⟨o.mono λi _ hi=>by omega,?_⟩;have c:Bk L F (enc x.key) 209:=c;refine rstoD (B:=(t.mv (w:=l)).fr o (by omega)) (vs:=enc y.key) rfl rfl rfl (Enc.one _) λp d q _ Y=>⟨q.mono λi _ hi=>by omega,?_⟩;have d:Bk p G (enc y.key) 209:=d;have c:=c.fr q (by omega);have M:Stp w p:=⟨Fr.st (Fr.st (lE w l) o λi hi=>by have:=lz w C;omega) q λi hi=>by have:=lz w C;omega⟩;have N:w.drawn<=p.drawn:=by have:=U.dr;have:=f.gw.dr;have:=h.gw.dr;omega
  clear r t;refine drawRE TBok mixed (λ_=>False) (.one 0 (.one 1 (.one 2 (.one 3 (.one 5 (.one 6 (.one 7 (.one 8 (.one 10 (.one 11 (.one 12 (.one 13 (.one 4 (.one 9 (.one 14 (.one 15 (.one 16 (.one 17 .nil)))))))))))))))))) (by kernel_rfl) λZ e8 O=>?_;refine tX c rfl nf (tX d rfl nf ?_);refine tX c rfl nf (tX d rfl nf ?_);refine tX c rfl nf (tX d rfl nf ?_);refine rcall zAc ?_;rintro v u4 ⟨rfl,rfl⟩;refine⟨Fr.refl _ _,?_⟩;refine rcall zAc ?_;rintro v u5 ⟨rfl,rfl⟩;refine⟨Fr.refl _ _,?_⟩;refine rcall zAc ?_;rintro v u6 ⟨rfl,rfl⟩;refine⟨Fr.refl _ _,?_⟩;refine rbsN [cmpI x.key.slot y.key.slot,cmpI x.key.dir y.key.dir,cmpI x.key.v y.key.v] rfl (vs:=[.int .i64 (cmpI x.key.slot y.key.slot),.int .i64 (cmpI x.key.dir y.key.dir),.int .i64 (cmpI x.key.v y.key.v)]) rfl rfl (by decide) λb9 w9 z Q=>⟨z.e,?_⟩;refine rcall (zBT Q (by simp)) ?_;rintro v u9 ⟨rfl,rfl⟩;refine⟨Fr.refl _ _,?_⟩;exact⟨rfl,(Gw.ofE M.e N).trans (O.trans z.gw)⟩
 ·refine ral λG W f t=>⟨Fr.fr f.e,?_⟩;refine ral λF l h r=>⟨Fr.fr h.e,?_⟩;have H:=f.b;have I:=f.s;have J:=h.b;have K:=h.s;refine rstoD (B:=r.mv (w:=l)) (vs:=enc x.key) rfl rfl rfl (Enc.one _) λL c o _ X=>⟨o.mono λi _ hi=>by omega,?_⟩;have c:Bk L F (enc x.key) 209:=c;refine rstoD (B:=(t.mv (w:=l)).fr o (by omega)) (vs:=enc y.key) rfl rfl rfl (Enc.one _) λp d q _ Y=>⟨q.mono λi _ hi=>by omega,?_⟩;have d:Bk p G (enc y.key) 209:=d;have c:=c.fr q (by omega);have M:Stp w p:=⟨Fr.st (Fr.st (lE w l) o λi hi=>by have:=lz w C;omega) q λi hi=>by have:=lz w C;omega⟩;have N:w.drawn<=p.drawn:=by have:=U.dr;have:=f.gw.dr;have:=h.gw.dr;omega
  clear r t;refine drawRE TBok mixed (λ_=>False) (.one 0 (.one 1 (.one 2 (.one 3 (.one 5 (.one 6 (.one 7 (.one 8 (.one 10 (.one 11 (.one 12 (.one 13 (.one 4 (.one 9 (.one 14 (.one 15 (.one 16 (.one 17 .nil)))))))))))))))))) (by kernel_rfl) λZ e8 O=>?_;refine tX c rfl nf (tX d rfl nf ?_);refine tX c rfl nf (tX d rfl nf ?_);refine tX c rfl nf (tX d rfl nf ?_);refine rcall zAc ?_;rintro v u4 ⟨rfl,rfl⟩;refine⟨Fr.refl _ _,?_⟩;refine rcall zAc ?_;rintro v u5 ⟨rfl,rfl⟩;refine⟨Fr.refl _ _,?_⟩;refine rcall zAc ?_;rintro v u6 ⟨rfl,rfl⟩;refine⟨Fr.refl _ _,?_⟩;refine rbsN [cmpI x.key.slot y.key.slot,cmpI x.key.dir y.key.dir,cmpI x.key.v y.key.v] rfl (vs:=[.int .i64 (cmpI x.key.slot y.key.slot),.int .i64 (cmpI x.key.dir y.key.dir),.int .i64 (cmpI x.key.v y.key.v)]) rfl rfl (by decide) λb9 w9 z Q=>⟨z.e,?_⟩;refine rcall (zBT Q (by simp)) ?_;rintro v u9 ⟨rfl,rfl⟩;refine⟨Fr.refl _ _,?_⟩;exact⟨rfl,(Gw.ofE M.e N).trans (O.trans z.gw)⟩
def zof:Value->StD
 |.agg cs=>match cs.toList with
  |[.int _ a,.int _ b,.int _ c,.int _ d]=>⟨⟨a,b,c⟩,d⟩
  |_=>zSt
 |_=>zSt
theorem zGc(z:StD):zof (agg z)=z:=rfl
structure CombM (l:List StD) (m:List (KeyD×Value)):Prop where
 val:∀p∈m,∃z,p.1=z.key/\p.2=agg z/\LeastOf l z
 all:∀x∈l,∃v,(x.key,v)∈m
theorem CombM.set{l:List StD}{m:List (KeyD×Value)}{x:StD}(h:CombM l m)(f:(m.map (·.1)).Nodup)(t:∀y∈l,y.key=x.key->x.d<=y.d):CombM (l++[x]) (setM x.key (agg x) m):=by
 refine⟨λp w=>?_,λy b=>?_⟩
 ·obtain⟨G,H⟩:=p;have c:=(zAg f).1 w;rcases c with ⟨o,q⟩|⟨o,q⟩
  ·subst o;subst q;refine⟨x,rfl,rfl,by simp,λy b e=>?_⟩;have c:=Qf.1 b;rcases c with b|b
   ·exact t y b e
   ·rw [Qc.1 b];exact Vr _
  ·have c:=h.val _ q;obtain⟨z,r,A,C,E⟩:=c;refine⟨z,r,A,QN _ C,λy b e=>?_⟩;have c:=Qf.1 b;rcases c with b|b
   ·exact E y b e
   ·rw [Qc.1 b] at e;exact absurd (r.trans e.symm) o
 ·have c:=Qf.1 b;rcases c with b|b
  ·have c:=h.all y b;obtain⟨v,F⟩:=c;by_cases e:y.key=x.key
   ·exact⟨agg x,(zAg f).2 (.inl ⟨e,rfl⟩)⟩
   ·exact⟨v,(zAg f).2 (.inr ⟨e,F⟩)⟩
  ·rw [Qc.1 b];exact⟨agg x,(zAg f).2 (.inl ⟨rfl,rfl⟩)⟩
theorem CombM.keep{l:List StD}{m:List (KeyD×Value)}{x z:StD}(h:CombM l m)(f:LeastOf l z)(o:z.key=x.key)(hd:¬x.d<z.d):CombM (l++[x]) m:=by
 refine⟨λp r=>?_,λy b=>?_⟩
 ·have c:=h.val p r;obtain⟨u,t,v,w,q⟩:=c;refine⟨u,t,v,QN _ w,λy b e=>?_⟩;have c:=Qf.1 b;rcases c with b|b
  ·exact q y b e
  ·rw [Qc.1 b] at e ⊢;have:=q z f.1 (o.trans e);omega
 ·have c:=Qf.1 b;rcases c with b|b
  ·exact h.all y b
  ·rw [Qc.1 b,<-o];exact h.all z f.1
theorem CombM.out{l out:List StD}{m:List (KeyD×Value)}(h:CombM l m)(x:(m.map (·.1)).Nodup)(q:out.Perm (m.map λp=>zof p.2))(r:SRis out):out=combL l:=by
 refine zEj r λz=>?_;rw [q.mem_iff,Qq];constructor
 ·rintro⟨p,t,rfl⟩;have b:=h.val p t;obtain⟨u,c,d,e⟩:=b;rw [d,zGc];exact e
 ·intro f;have b:=h.all z f.1;obtain⟨v,o⟩:=b;have b:=h.val _ o;obtain⟨u,c,d,e,w⟩:=b;refine⟨_,o,?_⟩;simp only at c d;rw [d,zGc];have y:=w z f.1 c;have a2:=f.2 u e c.symm;exact zF6 c.symm (by omega)
theorem CombM.apart{l:List StD}{m:List (KeyD×Value)}(h:CombM l m)(f:(m.map (·.1)).Nodup):(m.map λp=>zof p.2).Pairwise λa b=>a.key≠b.key:=by
 rw [Qx,QY] at f;rw [QY];refine Vv (λ{a b} o q r=>?_) f;have c:=h.val a o;obtain⟨u,t,v,_⟩:=c;have c:=h.val b q;obtain⟨u',d,e,_⟩:=c;rw [v,e,zGc,zGc,<-t,<-d];exact r
theorem zHK{c:Nat}{l:List StD}{w:World}(h:SlF w (.slice a n c) l)(hl:l.length<=1000000):
  Sp PP 267 #[.slice a n c] w λv w'=>Own w.heap.size 211 w' v (combL l)/\Stp w w':=by
 have E:=h.len;obtain rfl:=E;refine eN ?_;refine rmkNB (kt:=209) (κ:=KeyD) rfl λX w1 n1 M1=>?_;have hb:=n1.lo (u:=w);refine cN 15 [5,6,7,8] 15 l.length (λk u=>∃m,MapB PP 209 u X m/\CombM (l.take k) m/\m.length<=k/\Stp w u) ⟨[],M1,⟨by simp,by simp⟩,by simp,stp⟩ ?_;rintro k g u hk ⟨m,M,C,hm,su⟩;have A:=M.2;refine ite (λhlt=>?_) (λc1=>?_)
 ·have F:k<l.length:=by omega
  refine rix (h.up (w':=u)) (x:=l[k]) (by simp) λb1 o1 A1=>rloadA A1 rfl (ral λb2 u2 n2 z2=>?_);have c2:=n2.b;have c3:=n2.s;refine rE z2 (l[k]) λK H f3 _=>?_;have H:Bk K b2 (enc l[k]) 211:=H;have c4:=M.lt;have s3:Stp u K:=⟨Fr.st (lE u u2) f3 λi hi=>by omega⟩;have M3:MapB PP 209 K X m:=M.up;refine rG H (l[k]) (rG H (l[k].key) ?_);have N:l.take (k+1)=l.take k++[l[k]]:=take_add F
  cases hg:getM m l[k].key with
  |none =>
   have Q:∀y∈l.take k,y.key=l[k].key->l[k].d<=y.d:=λy hy e=>by
    have E:=C.all y hy;obtain⟨v,hv⟩:=E;have:=zAK A hv;rw [e,hg] at this;cases this
   refine rlookN M3.l l[k].key rfl hg ?_;refine ral λb4 R Z z4=>rE z4 zSt λt Y5 I _=>?_;have a4:=Z.b;have a5:=Z.s;have S:Bk t b2 (enc l[k]) 211:=(H.mv (w:=R)).fr I (by have:=H.lt;omega);have s5:Stp K t:=⟨Fr.st (lE K R) I λi hi=>by omega⟩;have Y:MapB PP 209 t X m:=M3.up;refine rG S (l[k].key) (rG S (l[k]) (rupdB Y l[k].key rfl λJ M6 f6 _=>?_));exact rA ⟨rfl,F,_,M6,by rw [N];exact C.set A Q,Qw (zDf _ _ _) (by omega),⟨Fr.st (Le.e (a:=w)) f6 λi hi=>by omega⟩⟩
  |some v =>
   have a6:=zA1 hg;have E:=C.val _ a6;obtain⟨z,e1,e2,hz⟩:=E;simp only at e1 e2;subst e2;refine rlookS M3.l l[k].key rfl hg ?_;refine ral λb4 R Z z4=>rE z4 z λt Y5 I _=>?_;have a4:=Z.b;have a5:=Z.s;have S:Bk t b2 (enc l[k]) 211:=(H.mv (w:=R)).fr I (by have:=H.lt;omega);have s5:Stp K t:=⟨Fr.st (lE K R) I λi hi=>by omega⟩;have Y:MapB PP 209 t X m:=M3.up;have Y5:Bk t b4 (enc z) 211:=Y5;refine rG Y5 z (rcall (zIq (x:=l[k]) (y:=z)) ?_);rintro _ J ⟨⟨rfl,h6⟩|⟨rfl,h6⟩,e6⟩
   ·have Q:∀y∈l.take k,y.key=l[k].key->l[k].d<=y.d:=λy hy e=>by
     have:=hz.2 y hy (e.trans e1);omega
    have S:=S.mv (w:=J);have Y:=Y.up (w':=J);refine rG S (l[k].key) (rG S (l[k]) (rupdB Y l[k].key rfl λJ M6 f6 _=>?_));exact rA ⟨rfl,F,_,M6,by rw [N];exact C.set A Q,Qw (zDf _ _ _) (by omega),⟨Fr.st (Le.e (a:=w)) f6 λi hi=>by omega⟩⟩
   ·exact rA ⟨rfl,F,m,Y.up,by rw [N];exact C.keep hz e1.symm h6,by omega,stp⟩
 ·have E:k=l.length:=by omega
  obtain rfl:=E;rw [Qg] at C;refine rnx rfl (rrangeM M λr w2 nr a7 Mr=>?_);have hr:=nr.b;have c5:=lz w u
  refine loop1G TBok 42 [11] 9 (λi v u=>∃(done rest:List (KeyD×Value)) (L:List StD),rest.length=i/\(done++rest).Perm m/\L=(done.map λp=>zof p.2)/\Own w.heap.size 211 u v L/\ItB PP 209 u r X rest/\Stp w u) rfl
   ⟨_,[],m,[],rfl,.refl _,rfl,Own.nil _ _ _,a7,stp⟩ ?_
  rintro i vl G R ⟨done,rest,L,hi,hp,rfl,O,It,s4⟩;have a8:=hp.length_eq;rw [Qb] at a8;refine rnx rfl (rnextM It (λU=>?_) λx v o t V hC I c6=>?_)
  ·subst U;rw [QE] at hp;refine rcall (zCZ Tryz.sortM (k:=4) (show Agg PP 211 4 from inferInstance) rfl cfM zMx (f:=342) rfl (λx y W=>zFk) O (by simp;omega)) ?_;rintro _ J ⟨rfl,l',a9,a0,O6,f6⟩;have s6:Stw w R J:=zAI f6;have a1:=a9.trans (hp.map λp=>zof p.2);have b0:=C.apart A
   have e6:l'=combL l:=by
    refine C.out A a1 ?_;have a3:l'.Pairwise λa b=>a.key≠b.key:=(a1.pairwise_iff λh=>Jq h).2 b0;exact(a0.and a3).imp λ⟨g1,g2⟩=>zCw (λhl=>g1 ((zF1 _ _).2 hl)) (Jq g2)
   rw [<-e6];exact⟨O6,stp⟩
  ·have b3:(x,v)∈m:=hp.mem_iff.1 (JJ _ (V.mem_iff.1 Qs));have E:=C.val _ b3;obtain⟨z,e1,e2,hz⟩:=E;simp only at e1 e2;subst e2;have s5:Stp w t:=⟨Fr.st s4.e I λi hi=>by omega⟩
   have b5:(done++[(x,agg z)]++o).Perm m:=by
    rw [Qp];exact(Vp done V).trans hp
   have b7:=V.length_eq;rw [QA] at b7;have O5:Own w.heap.size 211 t vl (done.map λp=>zof p.2):=O.itq (It.itq I (Qe r));refine rnx rfl (rentryM hC ?_);have b9:=hC.b;refine ral λb6 J n6 z6=>?_;have c7:=n6.b;have a0:=n6.s;refine rE z6 z λu7 X7 f7 _=>?_;have X7:Bk u7 b6 (enc z) 211:=X7;have s7:Stp t u7:=⟨Fr.st (lE t J) f7 λi hi=>by omega⟩;refine rG X7 z (bS z λb8 u8 e8 _ S8=>rapp1 (u:=w) ⟨rfl,rfl⟩ (O5.up (w':=u8)) S8 (by simp;omega) λv9 u9 O9 f9 s9=>?_);have c0:=(b9.up (w':=u8)).fro (O5.up (w':=u8)) f9
   have fin:∃(done q:List (KeyD×Value)) (L:List StD),q.length=o.length/\(done++q).Perm m/\L=(done.map λp=>zof p.2)/\Own w.heap.size 211 u9 v9 L/\ItB PP 209 u9 r X q/\Stp w u9:=
    ⟨done++[(x,agg z)],o,(done.map λp=>zof p.2)++[z],rfl,b5,by rw [QB];rfl,O9,c0,stp⟩
   exact⟨o.length,by omega,fin⟩
theorem int_o(x:Int):∀u∈[Value.int .i64 x],u.oneCell'=true:=by simp;rfl
theorem rremT{kd:IntKind}{x y:Int}{k:Value->World->Prop}{w:World}(c:0<y)(b:k (.int kd (x.tmod y)) w):RemS kd x y k w:=by
 rw [zC0];exact⟨by omega,b⟩
theorem zQC{x y:Int}(h:0<y):- y<x.tmod y/\x.tmod y<y:=by
 have b:=Int.le_total 0 x;rcases b with h0|h0
 ·rw [Xl h0];have c:=Vs x (show y≠0 by omega);have d:=VT x h;omega
 ·have e:x.tmod y = -((-x) % y):=by
   have:x = -(-x):=by omega
   rw [this,Int.neg_tmod,Xl (by omega)];simp
  have c:=Vs (-x) (show y≠0 by omega);have d:=VT (-x) h;omega
theorem zLt{n p:Int}{w:World}(b:1<=n/\n<=1000000):Sp PP 340 #[.int .i64 n,.int .i64 p] w λv w'=>(∃k:Int,v=.tuple #[.int .i64 k,.bool true]/\0<=k/\k<n)/\w'=w:=by
 refine eN ?_;refine iF (by omega) (rremT (by omega) ?_);have c:=zQC (x:=p) (y:=n) (by omega);refine ite (λh=>?_) (λh=>?_)
 ·refine rA ?_;exact⟨⟨_,rfl,by omega,by omega⟩,rfl⟩
 ·exact⟨⟨_,rfl,by omega,by omega⟩,rfl⟩
theorem tslO{α:Type}[Enc α]{w:World}{t e:TypeId}{z:Value}{sz b:Nat}[p:SlT P t e][q:Elem P e z sz b]{k:Value->Prop}{c:Nat}{l:List α}(lo hi:Option Nat)(h:Own B e w (.slice a n c) l)(r:lo.getD 0<=hi.getD n)(C:hi.getD n<=n)
  (v:∀a' d,(hi.getD n - lo.getD 0=0\/∃g,Value.blk (.slice a n c)=some g/\a'=some ⟨g,lo.getD 0*sz,none⟩)->k (.slice a' (hi.getD n - lo.getD 0) d)):TakeS P (Instr.sliceAt t (.slice a n c) (loV lo) (loV hi) none) D k w:=by
 have x:n<=c:=by obtain⟨a',d,f,o,_⟩:=h.sl;cases f;exact o
 rw [zAe];refine⟨_,λw' _=>zA0 p q lo hi r (by omega) w',v _ _ ?_⟩;by_cases h0:hi.getD n - lo.getD 0=0
 ·exact .inl h0
 ·right;have y:n=l.length:=by obtain⟨a',d,f,o,_⟩:=h.sl;cases f;rfl
  obtain⟨g,A,rfl,_⟩:=h.blk (by intro h0;subst h0;simp at y;omega);exact⟨g,rfl,by rw [if_neg (by omega)];simp [zAs]⟩
theorem Fr.st'{E:Nat->Prop}{a b c:World}(h:Fr D a b)(f:Fr E b c)(e:∀i,E i->a.heap.size<=i):Fr D a c:=
 ⟨f.os.trans h.os,f.tape.trans h.tape,f.output.trans h.output,Qw h.size f.size,λi hi hd=>(f.block i (QJ hi h.size) λl=>absurd (e i l) (by omega)).trans (h.block i hi hd),λi o p d=>f.nc i o (h.nc i o p d) d⟩
structure PickS (w0 w:World) (bi bp:Nat) (a:Option Addr) (c:Nat) (ps:List Int) (j:Int):Prop where
 ext:Ext w0 w
 row:SlF w0 (.slice a ps.length c) ps
 i:Bk w bi [.int .i64 j] 3
 p:Bk w bp [.slice a ps.length c] 34
 lo:w0.heap.size<=bi
 ne:bp≠bi
abbrev pickV (bi bp:Nat):Value:=.func (.func 339) #[] #[.pointer (some ⟨bi,0,none⟩),.pointer (some ⟨bp,0,none⟩)]
theorem PickS.up{w0 w:World}[Le w w']{b d:Nat}{c:Nat}{j:Int}(h:PickS w0 w b d a c ps j):PickS w0 w' b d a c ps j:=
 ⟨h.ext.trans Le.e,h.row,h.i.mv,h.p.mv,h.lo,h.ne⟩
theorem PickS.fr{w0 w:World}{b d:Nat}{c:Nat}{j:Int}(h:PickS w0 w b d a c ps j)(f:Fr D w w')(e:¬D b)(l:¬D d)(o:∀i,D i->w0.heap.size<=i):PickS w0 w' b d a c ps j:=
 ⟨Fr.st h.ext f o,h.row,h.i.fr f e,h.p.fr f l,h.lo,h.ne⟩
theorem zFT{n j:Int}{d e:Nat}{c:Nat}{w0 w:World}(r:1<=n/\n<=1000000)(E:-1<=j/\j<=1000000000)(S:PickS w0 w d e a c ps j):
  Sp PP 339 #[.int .i64 n,.pointer (some ⟨d,0,none⟩),.pointer (some ⟨e,0,none⟩)] w λv w'=>(∃k:Int,v=.int .i64 k/\0<=k/\k<n)/\PickS w0 w' d e a c ps (j+1)/\Fr (λi=>i=d) w w':=by
 refine eN ?_;refine rX S.i rfl (rA (rS S.i [.int .i64 (j+1)] (int_o _) λo l f _=>?_));have l:Bk o d [.int .i64 (j+1)] 3:=l;have b:PickS w0 o d e a c ps (j+1):=⟨Fr.st S.ext f λi hi=>by have:=S.lo;omega,S.row,l,S.p.fr f S.ne,S.lo,S.ne⟩;refine rX b.i rfl (rX b.p rfl (ite (λh=>⟨⟨0,rfl,by omega,by omega⟩,b,f⟩) (λh=>?_)));refine rX b.p rfl (rX b.i rfl ?_);have t:∃m:Nat,j+1=(m:Int):=⟨(j+1).toNat,by omega⟩;obtain⟨m,q⟩:=t;have y:m<ps.length:=by omega
 rw [q];refine rix (b.row.ext b.ext) (x:=ps[m]) (by simp) λF G z=>rload1 (z.cell0 rfl) (rcall (zLt r) ?_);rintro _ H ⟨⟨k,rfl,A,C⟩,rfl⟩;exact⟨⟨k,rfl,A,C⟩,q ▸ b,f⟩
theorem zH8{c:Nat}{w:World}(h:SlF w (.slice a n c) ps):Sp PP 265 #[.slice a n c] w λv w'=>(∃f d,v=pickV f d/\PickS w w' f d a c ps (-1)/\d<w'.heap.size/\w.heap.size<=d)/\Stp w w':=by
 have x:=h.len;obtain rfl:=x;refine eN ?_;refine rbx λd w1 n1 y=>ral λf o n2 z=>?_;have A:=n1.b;have C:=n1.s;have E:=n2.b;have F:=n2.s;refine rS z [.int .i64 (-1)] (int_o _) λp l q _=>?_;have l:Bk p f [.int .i64 (-1)] 3:=l;have r:Stp w p:=⟨Fr.st (lE w o) q λi hi=>by omega⟩;have t:=(y.mv (w:=o)).fr q (by omega);exact⟨⟨f,d,rfl,⟨r.e,h,l,t,by omega,by omega⟩,t.lt,by omega⟩,r⟩
structure OrdII (B:Nat) (w0 u:World) (bi bp:Nat) (a:Option Addr) (c:Nat) (ps:List Int) (g cc:Nat) (l:List Int) (vl vo:Value) (n:Nat):Prop where
 ex:∃(L out:List Int),vl=.slice (some ⟨g,0,none⟩) L.length cc/\L.length=n/\Own B 3 u (.slice (some ⟨g,0,none⟩) L.length cc) L/\Own B 3 u vo out/\(out++L).Perm l/\(∀b,Value.blk vo=some b->b≠g)/\PickS w0 u bi bp a c ps (-1+out.length)
theorem zFc{al:Option Addr}{nl cl:Nat}{l:List Int}{f C:Nat}{c:Nat}{w0 w:World}(hl:SlF w0 (.slice al nl cl) l)(hn:l.length<=100000)(S:PickS w0 w f C a c ps (-1)):
  Sp PP 264 #[.slice al nl cl,pickV f C] w λv w'=>(∃l',l'.Perm l/\Own w.heap.size 3 w' v l')/\Fr (λi=>i=f) w w':=by
 have E:=hl.len;obtain rfl:=E;have b2:=S.lo;have b3:=S.i.lt;have b5:=S.p.lt;refine eN ?_;refine rmk (default:Int) rfl rfl (by omega) λg w1 O1 s1 b6=>?_;have V:=S.up (w':=w1);refine rcp (u:=w) (lo:=0) rfl O1 (hl.ext V.ext) (.inr ⟨g,rfl,by simp⟩) (by simp) (by simp) λw2 O2 f2 s2 _=>?_;have e2:(List.replicate l.length (default:Int)).take 0++l++(List.replicate l.length (default:Int)).drop (0+l.length)=l:=by simp
 rw [e2] at O2;have S2:PickS w0 w2 f C a c ps (-1):=V.fr f2 (λhd=>by have:=hd.1;omega) (λhd=>by have:=hd.1;omega) (λi hd=>by have:=hd.1;omega);have F2:Fr (λi=>i=f) w w2:=Fr.fr (Fr.st s1.e f2 λi hd=>hd.1);clear O1 V;refine loop2 TBok 14 [7] 5 6 (λN vo u=>(∃n,OrdII w.heap.size w0 u f C a c ps g l.length l N vo n)/\Fr (λi=>i=f) w u) (λN _ _=>match N with | .slice _ n _=>n|_=>0) rfl ⟨⟨_,⟨l,[],rfl,rfl,O2,Own.nil _ _ _,.refl _,(λb d=>nomatch d),by simpa using S2⟩⟩,F2⟩ ?_;rintro N vo G u ⟨⟨n,⟨L,out,rfl,b7,OL,OO,O,F,Su⟩⟩,W⟩;have H:=O.length_eq;rw [Qb] at H;have b8:=W.size;refine ite (λhgt=>?_) (λb9=>?_)
 ·have o:0<L.length:=by omega
  have I:L≠[]:=by intro h;rw [h] at o;simp at o
  refine rcall (zFT (n:=(L.length:Int)) (by omega) (by omega) Su) ?_;rintro _ u3 ⟨⟨k,rfl,c0,c1⟩,S3,Q⟩;have E:∃p:Nat,k=(p:Int):=⟨k.toNat,by omega⟩;obtain⟨p,rfl⟩:=E;have X:p<L.length:=by omega
  have r:=OL.fr Q λb d _ hd=>by omega
  have Y:=OO.fr Q λb d _ hd=>by omega
  have z3:=Q.size;refine rix r.sl (x:=L[p]) (by simp) λb1 o1 A1=>rload1 (A1.cell0 rfl) (rbs1 L[p] rfl rfl (by decide) λb4 t n4 _ S4=>?_);have z4:=lz u3 t;refine rappD ⟨rfl,rfl⟩ (Y.up (w':=t)) S4 (by simp) (by omega) (by simp;omega) λv5 Z O5 R a0=>?_
  have c2:g<t.heap.size:=by
   have E:=(r.up (w':=t)).lt I;obtain⟨g',J,_,h2⟩:=E;cases J;exact h2
  have q:∀b,Value.blk v5=some b->b≠g:=λb d=>by
   rcases a0 with h|h
   ·rw [h] at d;exact F b d
   ·rw [h] at d;cases d;omega
  have a3:=(r.up (w':=t)).fr R λb _ d hd=>by
   have J:=hd.2.1;cases d;exact F _ J rfl
  have S5:=(S3.up (w':=t)).fr R (λhd=>by have:=hd.1;omega) (λhd=>by have:=hd.1;omega) (λi hd=>by have:=hd.1;omega);refine dD (λi=>w.heap.size<=i) (upF 8 0) λK e6=>?_;have z:=a3.up (w':=K);have O6:=O5.up (w':=K);have S6:=S5.up (w':=K);refine tslO (some p) none z (by simp;omega) (by simp) λa7 c7 h7=>?_;refine rarE (y:=((p+1:Nat):Int)) (by omega) (by omega) (tsl (some (p+1)) none z.sl (by simp;omega) (by simp) λa8 c8 S8=>?_)
  have a4:((L.drop ((some (p+1)).getD 0)).take ((none:Option Nat).getD L.length - (some (p+1)).getD 0))=L.drop (p+1):=by
   simp only [QP,JQ];exact Qj (by simp)
  rw [a4] at S8;simp only [QP,JQ] at S8 h7;refine rcp' rfl p z S8 h7 (show p+(L.length - p)<=L.length by omega) (show (L.drop (p+1)).length<=L.length - p by rw [QR];omega) λu7 O7 U z7=>⟨U.mono λi _ hd=>hd.1,?_⟩
  have e7:L.take p++L.drop (p+1)++L.drop (p+(L.drop (p+1)).length)=L.eraseIdx p++L.drop (L.length - 1):=by
   rw [Jp,QR,show p+(L.length - (p+1))=L.length - 1 by omega]
  rw [e7] at O7;have A:(L.eraseIdx p).length=L.length - 1:=by rw [Vt,if_pos X]
  have M:=O7.cut (m:=L.length - 1) (by omega) (by intro h;have:=congrArg List.length h;simp at this;omega);obtain⟨Oc,_⟩:=M;rw [VY (by omega),Qj (by omega)] at Oc;refine rarE (y:=((L.length - 1:Nat):Int)) (by omega) (by omega) (rslP (m:=L.length - 1) (by omega) ?_)
  have a5:=O6.fr U λb _ d hd=>by
   have J:=hd.2.1;cases J;exact q _ d rfl
  have z6:=lz Z K;have c3:=R.size;have a6:=S6.fr U (λhd=>by have:=hd.1;omega) (λhd=>by have:=hd.1;omega) (λi hd=>by have:=hd.1;omega)
  have F7:Fr (λi=>i=f) w u7:=by
   have a1:Fr (λi=>i=f) w t:=(W.trans Q).trans (Fr.fr n4.e);have a2:Fr (λi=>i=f) w Z:=Fr.st' a1 R λi hd=>hd.1;exact Fr.st' (a2.trans (fE Z K)) U λi hd=>hd.1
  have a9:((out++[L[p]])++L.eraseIdx p).Perm l:=by
   refine List.Perm.trans ?_ O;rw [Qp];refine Vp out ?_;rw [Jp];have h2:L=L.take p++L[p]::L.drop (p+1):=by rw [List.getElem_cons_drop,JW]
   exact((XH (a:=L[p]) (l₁:=L.take p) (l₂:=L.drop (p+1))).symm).trans (List.Perm.of_eq h2.symm)
  have b0:(-1:Int)+(out++[L[p]]).length = -1+out.length+1:=by simp;omega
  have fin:OrdII w.heap.size w0 u7 f C a c ps g l.length l (.slice (some ⟨g,0,none⟩) (L.length - 1) l.length) v5 (L.length - 1):=⟨L.eraseIdx p,out++[L[p]],by rw [A],A,by rw [A];exact Oc,a5,a9,q,by rw [b0];exact a6⟩;exact⟨⟨⟨_,fin⟩,F7⟩,by show L.length - 1<L.length;omega⟩
 ·have o:L=[]:=Qn (by omega);subst o;rw [QE] at O;exact⟨⟨out,O,OO⟩,W⟩
structure OrdIM (B:Nat) (w0 u:World) (bi bp:Nat) (a:Option Addr) (c:Nat) (ps:List Int) (g cc:Nat) (l:List StD) (vl vo:Value) (n:Nat):Prop where
 ex:∃(L out:List StD),vl=.slice (some ⟨g,0,none⟩) L.length cc/\L.length=n/\Own B 211 u (.slice (some ⟨g,0,none⟩) L.length cc) L/\Own B 211 u vo out/\(out++L).Perm l/\(∀b,Value.blk vo=some b->b≠g)/\PickS w0 u bi bp a c ps (-1+out.length)
theorem zEN{al:Option Addr}{nl cl:Nat}{l:List StD}{f C:Nat}{c:Nat}{w0 w:World}(hl:SlF w0 (.slice al nl cl) l)(hn:l.length<=100000)(S:PickS w0 w f C a c ps (-1)):
  Sp PP 272 #[.slice al nl cl,pickV f C] w λv w'=>(∃l',l'.Perm l/\Own w.heap.size 211 w' v l')/\Fr (λi=>i=f) w w':=by
 have E:=hl.len;obtain rfl:=E;have b2:=S.lo;have b3:=S.i.lt;have b5:=S.p.lt;refine eN ?_;refine rmk (default:StD) rfl rfl (by omega) λg w1 O1 s1 b6=>?_;have V:=S.up (w':=w1);refine rcp (u:=w) (lo:=0) rfl O1 (hl.ext V.ext) (.inr ⟨g,rfl,by simp⟩) (by simp) (by simp) λw2 O2 f2 s2 _=>?_;have e2:(List.replicate l.length (default:StD)).take 0++l++(List.replicate l.length (default:StD)).drop (0+l.length)=l:=by simp
 rw [e2] at O2;have S2:PickS w0 w2 f C a c ps (-1):=V.fr f2 (λhd=>by have:=hd.1;omega) (λhd=>by have:=hd.1;omega) (λi hd=>by have:=hd.1;omega);have F2:Fr (λi=>i=f) w w2:=Fr.fr (Fr.st s1.e f2 λi hd=>hd.1);clear O1 V;refine loop2 TBok 14 [7] 5 6 (λN vo u=>(∃n,OrdIM w.heap.size w0 u f C a c ps g l.length l N vo n)/\Fr (λi=>i=f) w u) (λN _ _=>match N with | .slice _ n _=>n|_=>0) rfl ⟨⟨_,⟨l,[],rfl,rfl,O2,Own.nil _ _ _,.refl _,(λb d=>nomatch d),by simpa using S2⟩⟩,F2⟩ ?_;rintro N vo G u ⟨⟨n,⟨L,out,rfl,b7,OL,OO,O,F,Su⟩⟩,W⟩;have H:=O.length_eq;rw [Qb] at H;have b8:=W.size;refine ite (λhgt=>?_) (λb9=>?_)
 ·have o:0<L.length:=by omega
  have I:L≠[]:=by intro h;rw [h] at o;simp at o
  refine rcall (zFT (n:=(L.length:Int)) (by omega) (by omega) Su) ?_;rintro _ u3 ⟨⟨k,rfl,c0,c1⟩,S3,Q⟩;have E:∃p:Nat,k=(p:Int):=⟨k.toNat,by omega⟩;obtain⟨p,rfl⟩:=E;have X:p<L.length:=by omega
  have r:=OL.fr Q λb d _ hd=>by omega
  have Y:=OO.fr Q λb d _ hd=>by omega
  have z3:=Q.size;refine rix r.sl (x:=L[p]) (by simp) λb1 o1 A1=>rloadA A1 rfl (rbs1 L[p] rfl rfl (by decide) λb4 t n4 _ S4=>?_);have z4:=lz u3 t;refine rappD ⟨rfl,rfl⟩ (Y.up (w':=t)) S4 (by simp) (by omega) (by simp;omega) λv5 Z O5 R a0=>?_
  have c2:g<t.heap.size:=by
   have E:=(r.up (w':=t)).lt I;obtain⟨g',J,_,h2⟩:=E;cases J;exact h2
  have q:∀b,Value.blk v5=some b->b≠g:=λb d=>by
   rcases a0 with h|h
   ·rw [h] at d;exact F b d
   ·rw [h] at d;cases d;omega
  have a3:=(r.up (w':=t)).fr R λb _ d hd=>by
   have J:=hd.2.1;cases d;exact F _ J rfl
  have S5:=(S3.up (w':=t)).fr R (λhd=>by have:=hd.1;omega) (λhd=>by have:=hd.1;omega) (λi hd=>by have:=hd.1;omega);refine dD (λi=>w.heap.size<=i) (upF 8 0) λK e6=>?_;have z:=a3.up (w':=K);have O6:=O5.up (w':=K);have S6:=S5.up (w':=K);refine tslO (some p) none z (by simp;omega) (by simp) λa7 c7 h7=>?_;refine rarE (y:=((p+1:Nat):Int)) (by omega) (by omega) (tsl (some (p+1)) none z.sl (by simp;omega) (by simp) λa8 c8 S8=>?_)
  have a4:((L.drop ((some (p+1)).getD 0)).take ((none:Option Nat).getD L.length - (some (p+1)).getD 0))=L.drop (p+1):=by
   simp only [QP,JQ];exact Qj (by simp)
  rw [a4] at S8;simp only [QP,JQ] at S8 h7;refine rcp' rfl p z S8 h7 (show p+(L.length - p)<=L.length by omega) (show (L.drop (p+1)).length<=L.length - p by rw [QR];omega) λu7 O7 U z7=>⟨U.mono λi _ hd=>hd.1,?_⟩
  have e7:L.take p++L.drop (p+1)++L.drop (p+(L.drop (p+1)).length)=L.eraseIdx p++L.drop (L.length - 1):=by
   rw [Jp,QR,show p+(L.length - (p+1))=L.length - 1 by omega]
  rw [e7] at O7;have A:(L.eraseIdx p).length=L.length - 1:=by rw [Vt,if_pos X]
  have M:=O7.cut (m:=L.length - 1) (by omega) (by intro h;have:=congrArg List.length h;simp at this;omega);obtain⟨Oc,_⟩:=M;rw [VY (by omega),Qj (by omega)] at Oc;refine rarE (y:=((L.length - 1:Nat):Int)) (by omega) (by omega) (rslP (m:=L.length - 1) (by omega) ?_)
  have a5:=O6.fr U λb _ d hd=>by
   have J:=hd.2.1;cases J;exact q _ d rfl
  have z6:=lz Z K;have c3:=R.size;have a6:=S6.fr U (λhd=>by have:=hd.1;omega) (λhd=>by have:=hd.1;omega) (λi hd=>by have:=hd.1;omega)
  have F7:Fr (λi=>i=f) w u7:=by
   have a1:Fr (λi=>i=f) w t:=(W.trans Q).trans (Fr.fr n4.e);have a2:Fr (λi=>i=f) w Z:=Fr.st' a1 R λi hd=>hd.1;exact Fr.st' (a2.trans (fE Z K)) U λi hd=>hd.1
  have a9:((out++[L[p]])++L.eraseIdx p).Perm l:=by
   refine List.Perm.trans ?_ O;rw [Qp];refine Vp out ?_;rw [Jp];have h2:L=L.take p++L[p]::L.drop (p+1):=by rw [List.getElem_cons_drop,JW]
   exact((XH (a:=L[p]) (l₁:=L.take p) (l₂:=L.drop (p+1))).symm).trans (List.Perm.of_eq h2.symm)
  have b0:(-1:Int)+(out++[L[p]]).length = -1+out.length+1:=by simp;omega
  have fin:OrdIM w.heap.size w0 u7 f C a c ps g l.length l (.slice (some ⟨g,0,none⟩) (L.length - 1) l.length) v5 (L.length - 1):=⟨L.eraseIdx p,out++[L[p]],by rw [A],A,by rw [A];exact Oc,a5,a9,q,by rw [b0];exact a6⟩;exact⟨⟨⟨_,fin⟩,F7⟩,by show L.length - 1<L.length;omega⟩
 ·have o:L=[]:=Qn (by omega);subst o;rw [QE] at O;exact⟨⟨out,O,OO⟩,W⟩
theorem zJU{d:Option Addr}{f h c:Nat}{l:List StD}{w:World}(q:SlF w (.slice d f h) l)(r:l.length<=100000)(t:SlF w (.slice a n c) ps):
  Sp PP 189 #[.slice d f h,.slice a n c] w λv w'=>(∃l',l'.Perm l/\Own w.heap.size 211 w' v l')/\Stp w w':=by
 refine eN ?_;refine rcall (zH8 t) ?_;rintro _ w1 ⟨⟨z,A,rfl,S,x,o⟩,p⟩;refine rcall (zEN q r S) ?_;rintro v C ⟨⟨l',b,O⟩,y⟩;exact⟨⟨l',b,O.mono p.e.size⟩,⟨Fr.st p.e y λi hi=>by have:=S.lo;omega⟩⟩
def upTo (n:Nat):List Int:=(List.range n).map λi:Nat=>(i:Int)
theorem zLv(n:Nat):(upTo n).length=n:=by simp [upTo]
theorem zJV{c:Nat}{w:World}(L:n<=1000)(t:SlF w (.slice a m c) ps):
  Sp PP 182 #[.int .i64 (n:Int),.slice a m c] w λv w'=>(∃l' p,v=.tuple #[p,.int .i64 0]/\l'.Perm (upTo n)/\Own w.heap.size 3 w' p l')/\Stp w w':=by
 refine eN ?_;refine iF (by omega) (iF (by omega) (rmk (default:Int) rfl rfl (by omega) λg w1 x M y=>cN 18 [7] 18 n (λk u=>Own w.heap.size 3 u (.slice (some ⟨g,0,none⟩) n n) (upTo k++List.replicate (n - k) (default:Int))/\Stp w u) ⟨by simpa [upTo] using x,stp⟩ ?_));rintro k G u N ⟨O,e⟩;have b:=zLv k;refine ite (λhlt=>?_) (λd=>?_)
 ·have f:k<n:=by omega
  have d:(upTo k++List.replicate (n - k) (default:Int))[k]? = some default:=by
   rw [Xk (by omega),b,JN,Vk,if_pos (by omega)]
  refine rixO rfl O d λQ l _ A=>rstO (u:=w) rfl (k:Int) O l (by simp;omega) rfl λR z q U _=>rA ⟨rfl,f,?_,stp⟩
  have C:(upTo k++List.replicate (n - k) (default:Int)).set k (k:Int)=upTo (k+1)++List.replicate (n - (k+1)) (default:Int):=by
   rw [List.set_append_right _ _ (by omega),b,JN];have E:n - k=(n - (k+1))+1:=by omega
   rw [E,List.replicate_succ,List.set_cons_zero];unfold upTo;rw [Jm,QB,Qp];rfl
  rw [<-C];exact z
 ·have F:k=n:=by omega
  obtain rfl:=F;rw [JN,List.replicate_zero,QE] at O;refine rcall (zH8 (t.up (w':=u))) ?_;rintro _ H ⟨⟨V,W,rfl,S,I,r⟩,J⟩;refine rcall (zFc O.sl (by omega) S) ?_;rintro v X ⟨⟨l',o,K⟩,q⟩;have Y:=J.e.size;have Z:=lz w u;exact⟨⟨l',v,rfl,o,K.mono (by omega)⟩,⟨Fr.st (lE w H) q λi hi=>by have:=S.lo;omega⟩⟩
theorem zCG{c:Nat}{l:List StD}{g:FuncId}{first cap:List Value}{p:StD->Prop}{w:World}(h:SlF w (.slice a n c) l)(E:l.length<=1000000)
  (z:∀r u,r∈l->Ext w u->Sp PP g (first++[agg r]++cap).toArray u λv u'=>Tells (p r) v/\Stp u u'):
  Sp PP 271 #[.slice a n c,.func (.func g) first.toArray cap.toArray] w λv w'=>((∃(k:Nat) (h:k<l.length),v=.int .i64 (k:Int)/\p l[k]/\∀y∈l.take k,¬p y)\/(v=.int .i64 (-1)/\∀y∈l,¬p y))/\Stp w w':=by
 have o:=h.len;obtain rfl:=o;refine eN ?_;refine cN 9 [4,5] 8 l.length (λk u=>(∀y∈l.take k,¬p y)/\Stp w u) ⟨by simp,stp⟩ ?_;rintro k F u G ⟨b,e⟩;refine ite (λhlt=>?_) (λA=>?_)
 ·have d:k<l.length:=by omega
  refine rix (h.up (w':=u)) (x:=l[k]) (by simp) λH I C=>rloadA C rfl (rcall (z l[k] u (Qa _) e.e) ?_);rintro _ J ⟨⟨rfl,q⟩|⟨rfl,q⟩,K⟩
  ·exact⟨.inl ⟨k,d,rfl,q,b⟩,stp⟩
  ·refine rA ⟨rfl,d,λt f=>?_,stp⟩;rw [take_add d] at f;have o:=Qf.1 f;rcases o with f|f
   ·exact b t f
   ·rw [Qc.1 f];exact q
 ·have o:k=l.length:=by omega
  obtain rfl:=o;rw [Qj (Qe _)] at b;exact⟨.inr ⟨rfl,b⟩,stp⟩
theorem zB0{c:Nat}{l:List StD}{g:FuncId}{first cap:List Value}{p:StD->Prop}{w:World}(h:SlF w (.slice a n c) l)(o:l.length<=1000000)
  (q:∀r u,r∈l->Ext w u->Sp PP g (first++[agg r]++cap).toArray u λv u'=>Tells (p r) v/\Stp u u'):
  Sp PP 187 #[.slice a n c,.func (.func g) first.toArray cap.toArray] w λv w'=>Tells (∃y∈l,p y) v/\Stp w w':=by
 refine eN ?_;refine rcall (zCG h o q) ?_;rintro _ w1 ⟨⟨k,x,rfl,b,_⟩|⟨rfl,b⟩,e⟩
 ·refine ite (λ_=>⟨.t ⟨_,Qa x,b⟩,e⟩) (λd=>absurd d (by omega))
 ·refine ite (λd=>absurd d (by omega)) (λ_=>⟨.f λ⟨y,z,A⟩=>b y z A,e⟩)
structure DelI (p:StD->Prop) [DecidablePred p] (l L:List StD) (i j:Nat):Prop where
 len:L.length=l.length
 ij:i<=j
 jl:j<=l.length
 head:L.take i=(l.take j).filter λx=>!decide (p x)
 tail:L.drop j=l.drop j
theorem DelI.skip{p:StD->Prop}[DecidablePred p]{l L:List StD}(h:DelI p l L i j)(b:j<l.length)(c:p l[j]):DelI p l L i (j+1):=by
 refine⟨h.len,Nat.le_succ_of_le h.ij,b,?_,?_⟩
 ·rw [take_add b,QV,h.head];simp [c]
 ·have:=congrArg (List.drop 1) h.tail;simpa [VZ,Xv] using this
theorem DelI.get{p:StD->Prop}[DecidablePred p]{l L:List StD}(h:DelI p l L i j)(b:j<l.length):L[j]? = some l[j]:=by
 have:=congrArg (λx=>x[0]?) h.tail;simpa [Vz,b] using this
theorem DelI.put{p:StD->Prop}[DecidablePred p]{l L:List StD}(h:DelI p l L i j)(b:j<l.length)(c:¬p l[j]):DelI p l (L.set i l[j]) (i+1) (j+1):=by
 have hi:=h.ij;have d:=h.len;refine⟨by rw [Jc,h.len],by omega,b,?_,?_⟩
 ·rw [take_add b,QV,<-h.head];have e:([l[j]].filter λx=>!decide (p x))=[l[j]]:=by simp [c]
  rw [e];rw [List.take_add_one,List.take_set_of_le (Qe _),List.getElem?_set_self (by omega)];rfl
 ·rw [List.drop_set_of_lt (by omega)];have:=congrArg (List.drop 1) h.tail;simpa [VZ,Xv] using this
theorem zFg{c:Nat}{l:List StD}{g:FuncId}{first cap:List Value}{p:StD->Prop}[DecidablePred p]{St:World->Prop}{w:World}(h:Own B 211 w (.slice a n c) l)(hn:l.length<=1000000)(hB:B<=w.heap.size)
  (h0:St w)(t:∀u u',St u->Fr (ownD B (.slice a n c)) u u'->St u')(Y:∀r u,r∈l->St u->Sp PP g (first++[agg r]++cap).toArray u λv u'=>Tells (p r) v/\Stp u u'):
  Sp PP 266 #[.slice a n c,.func (.func g) first.toArray cap.toArray] w λv w'=>Own B 211 w' v (l.filter λx=>!decide (p x))/\Fr (ownD B (.slice a n c)) w w':=by
 have z:=h.sl.len;obtain rfl:=z;refine eN ?_;refine rcall (zCG h.sl hn λr u hr e=>Y r u hr (t _ _ h0 e.fr)) ?_;rintro _ w1 ⟨⟨k,E,rfl,M,f⟩|⟨rfl,M⟩,Z⟩
 case' inr =>
  refine iT rfl ?_;have e:(l.filter λx=>!decide (p x))=l:=JH.2 λx N=>by simp [M x N]
  rw [e];exact⟨h.up,Fr.fr Z.e⟩
 refine iF (by omega) (rarE (y:=((k+1:Nat):Int)) (by omega) (by omega) ?_);have d:l≠[]:=by intro h;rw [h] at E;simp at E
 have z:=h.blk d;obtain⟨gg,a1,rfl,_⟩:=z;have I0:DelI p l l k (k+1):=(show DelI p l l k k from ⟨rfl,Qe _,Yj E,(JH.2 λx N=>by simp [f x N]).symm,rfl⟩).skip E M
 refine loop2 TBok 16 [7] 5 6 (λv5 H u=>∃(i j:Nat) (L:List StD),v5=.int .i64 (i:Int)/\H=.int .i64 (j:Int)/\DelI p l L i j/\Own B 211 u (.slice (some ⟨gg,0,none⟩) l.length c) L/\Fr (ownD B (.slice (some ⟨gg,0,none⟩) l.length c)) w u) (λ_ H _=>l.length+1 - (Go.RowKit.intOf H).toNat) rfl
  ⟨k,k+1,l,rfl,rfl,I0,h.up,Fr.fr Z.e⟩ ?_
 rintro v5 H G u ⟨i,j,L,rfl,rfl,I,O,Q⟩;have a3:=I.ij;have a4:=I.jl;have o:=I.len;refine ite (λhlt=>?_) (λa5=>?_)
 ·have J:j<l.length:=by omega
  refine rixO rfl O (I.get J) λg2 a6 _ A2=>rloadA A2 rfl (ral λb3 u3 n3 z3=>?_);have a8:=n3.b;have a9:B<=u.heap.size:=Qw hB Q.size;refine rE z3 (l[j]) λR K f4 _=>?_;have K:Bk R b3 (enc l[j]) 211:=K;have s4:Stp u R:=⟨Fr.st (lE u u3) f4 λi hi=>by omega⟩;refine rG K (l[j]) ?_;have q:=Q.trans (Fr.fr s4.e);refine rcall (Y l[j] R (Qa J) (t _ _ h0 q)) ?_;rintro _ S ⟨⟨rfl,U⟩|⟨rfl,U⟩,e5⟩
  ·refine rarE (y:=((j+1:Nat):Int)) (by omega) (by omega) ?_;exact⟨⟨i,j+1,L,rfl,rfl,I.skip J U,O.up (w':=S),q.trans (Fr.fr e5.e)⟩,by show l.length+1 - ((((j+1:Nat):Int))).toNat<l.length+1 - ((j:Int)).toNat;omega⟩
  ·refine rG K (l[j]) ?_;have V:i<L.length:=by omega
   refine rixO rfl (O.up (w':=S)) (x:=L[i]) (by simp) λg6 W _ A6=>rstO' rfl l[j] (O.up (w':=S)) W V rfl λu7 O7 f7 _=>rarE (y:=((i+1:Nat):Int)) (by omega) (by omega) (rarE (y:=((j+1:Nat):Int)) (by omega) (by omega) ?_);exact⟨⟨i+1,j+1,_,rfl,rfl,I.put J U,O7,(q.trans (Fr.fr e5.e)).trans f7⟩,by show l.length+1 - ((((j+1:Nat):Int))).toNat<l.length+1 - ((j:Int)).toNat;omega⟩
 ·have z:j=l.length:=by omega
  obtain rfl:=z;have a0:L≠[]:=by intro h;rw [h] at o;simp at o;exact d (Qn o.symm)
  refine rslO (some i) none O (by simp;omega) (by simp) λa7 c7 h7=>?_;simp only [QP,JQ] at h7;refine rnclr rfl rfl (rclr (zSt:StD) rfl rfl i O h7 (show i+(l.length - i)<=L.length by omega) λu8 O8 f8=>?_);have A:=O8.cut (m:=i) (by omega) (by intro h;have:=congrArg List.length h;rw [Qb,Qb,Qm,List.length_replicate,QR,QZ] at this;omega);obtain⟨Oc,_⟩:=A;have C:=I.head;rw [Qj (Qe l.length)] at C;rw [Qp,VY (by simp;omega),Xz,Nat.min_self,C] at Oc;have X:i<=c:=by obtain⟨_,_,hv,hc,_⟩:=O.sl;injection hv with h1 F h3;omega
  refine rslP X ?_;exact⟨Oc,Q.trans f8⟩
theorem zKL(x:StD):∀L:List StD,(putC x L).length<=L.length+1
 |[]=>by simp [putC]
 |y::r=>by
  have:=zKL x r;unfold putC;split
  ·simp;omega
  ·split <;> simp
theorem zCn(l:List StD):(combL l).length<=l.length:=by
 have b:∀(m L:List StD),(m.foldl (λL x=>putC x L) L).length<=L.length+m.length:=by
  intro m
  induction m with
  |nil=>intro L;simp
  |cons x r c =>
   intro L;rw [JY,QA];have:=c (putC x L);have:=zKL x L;omega
 have:=b l [];simpa [combL] using this
def KeyM (S:List StD) (m:List (KeyD×Value)):Prop:=∀k,getM m k=if keyIn S k then some (.bool true) else none
theorem KeyM.add{S:List StD}{m:List (KeyD×Value)}(h:KeyM S m)(x:StD):KeyM (S++[x]) (setM x.key (.bool true) m):=λk=>by
 rw [zGY,h k];by_cases e:k=x.key
 ·have:keyIn (S++[x]) k=true:=zBW.2 ⟨x,by simp,e.symm⟩;rw [if_pos e,if_pos this]
 ·have:keyIn (S++[x]) k=keyIn S k:=by
   rw [Bool.eq_iff_iff,zBW,zBW];constructor
   ·rintro⟨y,b,c⟩;have d:=Qf.1 b;rcases d with b|b
    ·exact⟨y,b,c⟩
    ·rw [Qc.1 b] at c;exact absurd c.symm e
   ·rintro⟨y,b,c⟩;exact⟨y,QN _ b,c⟩
  rw [if_neg e,this]
theorem zHj{x:StD}{S:List StD}{d e:Nat}{m:List (KeyD×Value)}{w:World}(T:Bk w d [.map (some e)] 344)(M:MapL PP 209 w e m)(K:KeyM S m):
  Sp PP 268 #[agg x,.pointer (some ⟨d,0,none⟩)] w λv w'=>Tells (keyIn S x.key=true) v/\Stp w w':=by
 refine eN ?_;refine rbx λb w1 n1 l=>rX T rfl (rG l x.key ?_);have c:=K x.key;by_cases h:keyIn S x.key=true
 ·rw [if_pos h] at c;refine rlookE (M.up (w':=w1)) x.key rfl (v:=.bool true) (by rw [c];rfl) ?_;exact⟨.t h,stp⟩
 ·rw [if_neg h] at c;refine rlookE (M.up (w':=w1)) x.key rfl (v:=.bool false) (by rw [c];rfl) ?_;exact⟨.f h,stp⟩
theorem zDZ{c G:Nat}{S M:List StD}{w:World}(H:SlF w (.slice a n c) S)(I:SlF w (.slice a2 n2 G) M)(V:S.length<=100000)(W:M.length<=1000000):
  Sp PP 184 #[.slice a n c,.slice a2 n2 G] w λv w'=>Own w.heap.size 211 w' v (freshL S M)/\Stp w w':=by
 have d:=H.len;obtain rfl:=d;have d:=I.len;obtain rfl:=d;refine eN ?_;refine rmkN (kt:=209) (κ:=KeyD) rfl λh w1 n1 X=>?_;refine ral λy J n2 L=>?_;have Y:=n1.b;have Z:=n1.s;have a0:=n2.b;have a1:=n2.s;refine rS L [.map (some h)] (by simp;rfl) λz A l _=>?_;have A:Bk z y [.map (some h)] 344:=A;have s3:Stp w z:=⟨Fr.st (lE w J) l λi hi=>by omega⟩;have M3:MapL PP 209 z h ([]:List (KeyD×Value)):=(X.up (w':=J)).fr l (by omega);clear L l;refine cN 11 [7] 11 S.length (λk u=>∃m,MapL PP 209 u h m/\KeyM (S.take k) m/\Bk u y [.map (some h)] 344/\Stp w u) ⟨[],M3,λk=>rfl,A,s3⟩ ?_;rintro k g u hk ⟨m,C,K,T,su⟩;have a3:=C.lt;have a4:=T.lt;refine ite (λhlt=>?_) (λa5=>?_)
 ·have o:k<S.length:=by omega
  refine rix (H.up (w':=u)) (x:=S[k]) (by simp) λb4 o4 A4=>rloadA A4 rfl (ral λb5 u5 N z5=>?_);have a6:=N.b;have a7:=N.s;refine rE z5 (S[k]) λq E f6 _=>?_;have E:Bk q b5 (enc S[k]) 222:=E;have s6:Stp u q:=⟨Fr.st (lE u u5) f6 λi hi=>by omega⟩;refine rX T rfl (rG E (S[k].key) (rupd (C.up (w':=q)) S[k].key rfl λu7 M7 O _=>?_));have T7:=(T.mv (w:=q)).fr O (by omega);exact rA ⟨rfl,o,_,M7,by rw [take_add o];exact K.add _,T7,⟨Fr.st (lE w q) O λi hi=>by omega⟩⟩
 ·have d:k=S.length:=by omega
  obtain rfl:=d;rw [Qg] at K;refine rcall (zHK (I.up (w':=u)) (by omega)) ?_;rintro v Q ⟨R,e2⟩;have a8:(combL M).length<=M.length:=zCn M;have d:=R.shape;obtain⟨oa,oc,rfl⟩:=d;refine rcall (zFg (g:=268) (first:=[]) (cap:=[.pointer (some ⟨y,0,none⟩)]) (p:=λx=>keyIn S x.key=true) (St:=λu=>Bk u y [.map (some h)] 344/\MapL PP 209 u h m) R (by omega) e2.e.size ⟨T.mv (w:=Q),C.up⟩ (λx x' t f=>⟨t.1.fr f (λhd=>by have:=hd.1;omega),t.2.fr f (λhd=>by have:=hd.1;omega)⟩) (λr x hr t=>zHj t.1 t.2 K)) ?_;rintro v u3 ⟨U,l⟩
  have e3:((combL M).filter λx=>!decide (keyIn S x.key=true))=freshL S M:=by
   unfold freshL;congr 1;funext x;simp
  rw [e3] at U;have F:=lz w u;exact⟨U.mono F,⟨Fr.st (lE w Q) l λi hi=>by have:=hi.1;omega⟩⟩
end Go.W
namespace Go.Proofs
open Go.Shelf Tryz
def Tryz.cmpT_ren:Go.Shelf.Ren:=⟨fun|106=>243|213=>323|265=>372|n=>n,fun|9=>9|3=>3|n=>n,fun|n=>n⟩
theorem Tryz.cmpT:Go.Proofs.Lays.n106 prog Tryz.cmpT_ren:={
 mixed:=by kernel_rfl
 f106:=W.ff func243
 f213:=W.ff func323
 f265:=W.ff func372
 t3:=underlying3
 a3:=isAgg3
 z3:=sizeOf3
 v3:=zeroValue3
 t9:=underlying9
 a9:=isAgg9
 z9:=sizeOf9
 v9:=zeroValue9 }
end Go.Proofs
namespace Go.W
open Go Go.Proofs
open Enc (enc)
set_option maxRecDepth 10000
variable {B hi i j k m n n2:Nat} {D:Nat -> Prop} {P:Program} {T:Tab} {a a' a2:Option Addr} {g:GrD} {ps:List Int} {s:List UInt8} {u u' w':World}
theorem zEi:∀(a b:List UInt8),Lib.compareBytes a b<0↔a<b
 |[],[]=>by simp [Lib.compareBytes]
 |[],_::_=>by simp [Lib.compareBytes]
 |_::_,[]=>by simp [Lib.compareBytes]
 |a::xs,b::ys=>by
  have d:=zEi xs ys;unfold Lib.compareBytes;rw [List.cons_lt_cons_iff];split
  ·rename_i h;simp [h]
  ·rename_i h;split
   ·rename_i c;have:a≠b:=by rintro rfl;exact absurd c h
    simp [h,this]
   ·rename_i c
    have:a=b:=by
     rw [UInt8.lt_iff_toNat_lt] at h c;exact UInt8.toNat.inj (by omega)
    simp [this,d]
theorem zCA{a b:ByteArray}{w:World}:Sp PP 243 #[.string a,.string b] w λv w'=>v=.int .i64 (Lib.compareBytes a.data.toList b.data.toList)/\w'=w:=
 ⟨⟨_,Tryz.func243,rfl,rfl⟩,(Any.strings_Compare Tryz.cmpT a b w).mono λe w' h=>by obtain⟨rfl,rfl⟩:=h;exact⟨rfl,rfl⟩⟩
instance:Enc EdN:=⟨2,λx=>[.int .i64 (x.f:Int),.int .i64 (x.t:Int)],λ_=>rfl,by intro x u hu;simp at hu;rcases hu with rfl|rfl <;> rfl,by decide⟩
instance:Inhabited EdN:=⟨⟨0,0⟩⟩
instance:EqT PP 159 EdN:=⟨by kernel_rfl,λd x y w=>⟨_,by
  rw [zEF (l:=[(3,0),(3,1)]) (by kernel_rfl) (d+7)];exact zB9 rfl rfl (zB9 rfl rfl (zIi _ _ _ _)),by cases x;cases y;simp;omega⟩⟩
structure RGr where
 n:Int
 es:SV
 ws:SV
instance:Enc RGr:=⟨3,λx=>[.int .i64 x.n,.slice x.es.a x.es.n x.es.c,.slice x.ws.a x.ws.n x.ws.c],λ_=>rfl,by intro x u hu;simp at hu;rcases hu with rfl|rfl|rfl <;> rfl,by decide⟩
def RowsV {α:Type} [Enc α] (w:World) (vs:List SV) (ls:List (List α)):Prop:=vs.length=ls.length/\∀i (h:i<vs.length) (h':i<ls.length),SlF w vs[i].v ls[i]
theorem RowsV.up{α:Type}[Enc α]{w:World}[Le w w']{vs:List SV}{b:List (List α)}(h:RowsV w vs b):RowsV w' vs b:=⟨h.1,λi c d=>(h.2 i c d).up⟩
structure GrV (w:World) (x:RGr) (g:GrD) (vs:List SV):Prop where
 n:x.n=(g.n:Int)
 es:SlF w (.slice x.es.a x.es.n x.es.c) g.es
 ws:SlF w (.slice x.ws.a x.ws.n x.ws.c) vs
 rows:RowsV w vs g.ws
 small:g.es.length<=1000000/\vs.length<=1000000/\∀l∈g.ws,l.length<=1000000
 words:∀l∈g.ws,∀s∈l,s.size<=1000000
theorem GrV.up{w:World}[Le w w']{x:RGr}{vs:List SV}(h:GrV w x g vs):GrV w' x g vs:=⟨h.n,h.es.up,h.ws.up,h.rows.up,h.small,h.words⟩
theorem zEV{s:ByteArray}{w:World}(C:s.size<=1000000):Sp PP 228 #[.string s] w λv w'=>Tells (WordB s) v/\Stp w w':=by
 have E:s.data.toList.length=s.size:=Vc;refine eN ?_;refine cN 7 [2,3] 6 s.size (λk u=>(∀c∈s.data.toList.take k,97<=c.toNat/\c.toNat<=122)/\Stp w u) ⟨by simp,stp⟩ ?_;rintro k g u F ⟨b,e⟩;refine ite (λhlt=>?_) (λz=>?_)
 ·have d:k<s.data.toList.length:=by omega
  have y:¬(97<=s.data.toList[k].toNat/\s.data.toList[k].toNat<=122)->¬WordB s:=λh A=>h (A.1 _ (Qa _));refine rsidx (c:=s.data.toList[k]) (Qd d) (ite (λo=>⟨.f (y (by omega)),stp⟩) (λo=>?_));refine rsidx (c:=s.data.toList[k]) (Qd d) (ite (λp=>⟨.f (y (by omega)),stp⟩) (λp=>?_));refine rA ⟨rfl,by omega,λt l=>?_,stp⟩;rw [take_add d] at l;have q:=Qf.1 l;rcases q with l|l
  ·exact b t l
  ·rw [Qc.1 l];omega
 ·have q:k=s.size:=by omega
  obtain rfl:=q;rw [Qj (by omega)] at b;refine rsne (λr=>?_) (λx=>⟨.f (λh=>?_),stp⟩)
  ·have G:s.size≠0:=λh=>r (by
    have:s.data.toList=[]:=Qn (by omega);have p:s.data=#[]:=by simpa using this
    exact congrArg ByteArray.mk p)
   refine ite (λo=>⟨.t ⟨b,by omega,by omega⟩,stp⟩) (λo=>⟨.f (λh=>by have:=h.2.2;omega),stp⟩)
  ·have:=h.2.1;rw [x] at this;exact absurd this (by decide)
theorem zG0{s:ByteArray}{w:World}(b:s.size<=1000000):Sp PP 245 #[.string s] w λv w'=>Tells (¬WordB s) v/\Stp w w':=by
 refine eN ?_;refine rcall (zEV b) ?_;rintro _ d ⟨⟨rfl,h⟩|⟨rfl,h⟩,e⟩
 ·exact⟨.f (λc=>c h),stp⟩
 ·exact⟨.t h,stp⟩
theorem zE7{c:Nat}{l:List ByteArray}{g:FuncId}{first cap:List Value}{p:ByteArray->Prop}{w:World}(h:SlF w (.slice a n c) l)(C:l.length<=1000000)
  (q:∀r u,r∈l->Ext w u->Sp PP g (first++[Value.string r]++cap).toArray u λv u'=>Tells (p r) v/\Stp u u'):
  Sp PP 309 #[.slice a n c,.func (.func g) first.toArray cap.toArray] w λv w'=>((∃k:Nat,v=.int .i64 (k:Int)/\∃y∈l,p y)\/(v=.int .i64 (-1)/\∀y∈l,¬p y))/\Stp w w':=by
 obtain rfl:=h.len;refine eN ?_;refine cN 9 [4,5] 8 l.length (λk u=>(∀y∈l.take k,¬p y)/\Stp w u) ⟨by simp,stp⟩ ?_;rintro k E u F ⟨b,e⟩;refine ite (λhlt=>?_) (λz=>?_)
 ·have f:k<l.length:=by omega
  refine rix (h.up (w':=u)) (x:=l[k]) (by simp) λG H A=>rload1 (A.cell0 rfl) (rcall (q l[k] u (Qa _) e.e) ?_);rintro _ I ⟨⟨rfl,o⟩|⟨rfl,o⟩,J⟩
  ·exact⟨.inl ⟨k,rfl,l[k],Qa _,o⟩,stp⟩
  ·refine rA ⟨rfl,f,λt d=>?_,stp⟩;rw [take_add f] at d;rcases Qf.1 d with d|d
   ·exact b t d
   ·rw [Qc.1 d];exact o
 ·obtain rfl:k=l.length:=by omega
  rw [Qj (Qe _)] at b;exact⟨.inr ⟨rfl,b⟩,stp⟩
theorem zBE{c:Nat}{l:List ByteArray}{g:FuncId}{first cap:List Value}{p:ByteArray->Prop}{w:World}(h:SlF w (.slice a n c) l)(e:l.length<=1000000)
  (o:∀r u,r∈l->Ext w u->Sp PP g (first++[Value.string r]++cap).toArray u λv u'=>Tells (p r) v/\Stp u u'):
  Sp PP 229 #[.slice a n c,.func (.func g) first.toArray cap.toArray] w λv w'=>Tells (∃y∈l,p y) v/\Stp w w':=by
 refine eN ?_;refine rcall (zE7 h e o) ?_;rintro _ z ⟨⟨k,rfl,d⟩|⟨rfl,d⟩,A⟩
 ·refine ite (λb=>⟨.t d,stp⟩) (λb=>absurd b (by omega))
 ·refine ite (λb=>absurd b (by omega)) (λb=>⟨.f (λ⟨y,q,x⟩=>d y q x),stp⟩)
theorem belowN{p:Nat->Prop}(h:∀j,j<k->¬p j)(d:¬p k):∀j,j<k+1->¬p j:=λj e=>by
 have b:=QH j k;rcases b with c|c
 ·exact h j c
 ·have b:j=k:=by omega
  obtain rfl:=b;exact d
theorem zDj{c:Nat}{l:List SV}{g:FuncId}{p:Nat->Prop}{w:World}(h:SlF w (.slice a n c) l)(K:l.length<=1000000)
  (A:∀i (hi:i<l.length) u,Ext w u->Sp PP g #[l[i].v] u λv u'=>Tells (p i) v/\Stp u u'):
  Sp PP 161 #[.slice a n c,.func (.func g) #[] #[]] w λv w'=>Tells (∃i,i<l.length/\p i) v/\Stp w w':=by
 have C:Sp PP 247 #[.slice a n c,.func (.func g) #[] #[]] w λv w'=>((∃k:Nat,v=.int .i64 (k:Int)/\k<l.length/\p k)\/(v=.int .i64 (-1)/\∀i,i<l.length->¬p i))/\Stp w w':=by
  have r:=h.len;obtain rfl:=r;refine eN ?_;refine cN 9 [4,5] 8 l.length (λk u=>(∀i,i<k->¬p i)/\Stp w u) ⟨(λi hi=>by omega),stp⟩ ?_;rintro k L u z ⟨b,e⟩;refine ite (λhlt=>?_) (λE=>?_)
  ·have d:k<l.length:=by omega
   refine rix (h.up (w':=u)) (x:=l[k]) (by simp) λM N F=>rload1 (F.cell0 rfl) (rcall (A k d u e.e) ?_);rintro _ G ⟨⟨rfl,o⟩|⟨rfl,o⟩,H⟩
   ·exact⟨.inl ⟨k,rfl,d,o⟩,stp⟩
   ·exact rA ⟨rfl,d,belowN b o,stp⟩
  ·have r:k=l.length:=by omega
   obtain rfl:=r;exact⟨.inr ⟨rfl,b⟩,stp⟩
 refine eN ?_;refine rcall C ?_;rintro _ G ⟨⟨k,rfl,z,o⟩|⟨rfl,o⟩,H⟩
 ·refine ite (λq=>⟨.t ⟨k,z,o⟩,stp⟩) (λq=>absurd q (by omega))
 ·refine ite (λq=>absurd q (by omega)) (λq=>⟨.f (λ⟨y,I,J⟩=>o y I J),stp⟩)
abbrev orderV (f:FuncId):Value:=.agg #[.func (.func f) #[] #[]]
theorem zAH{w:World}:Sp PP 157 #[] w λv w'=>v=orderV 243/\Stp w w':=by
 refine eN ?_;refine ral λb w1 n1 f=>rbuild (cs:=[.func (.func 243) #[] #[]]) rfl (rS f [.func (.func 243) #[] #[]] (by intro u c;simp at c;subst c;rfl) λd e h _=>?_);have l:Stp w d:=n1.st h;have e:Bk d b [.func (.func 243) #[] #[]] 244:=e;exact rresG rfl ⟨rfl,stp⟩
theorem zCa{w:World}:Sp PP 160 #[] w λv w'=>v=orderV 246/\Stp w w':=by
 refine eN ?_;refine ral λb w1 n1 f=>rbuild (cs:=[.func (.func 246) #[] #[]]) rfl (rS f [.func (.func 246) #[] #[]] (by intro u c;simp at c;subst c;rfl) λd e h _=>?_);have l:Stp w d:=n1.st h;have e:Bk d b [.func (.func 246) #[] #[]] 250:=e;exact rresG rfl ⟨rfl,stp⟩
def cfE (a b:EdN):Int:=orI [cmpI a.f b.f,cmpI a.t b.t]
theorem zF0(a b:EdN):cfE a b<0↔ltE a b:=by
 unfold cfE ltE;rw [or_neg,or_neg];have:=or_nil;constructor
 ·rintro(h|⟨h,c|⟨_,d⟩⟩)
  ·exact .inl (by omega)
  ·exact .inr ⟨by omega,by omega⟩
  ·exact absurd d this
 ·rintro(h|⟨h,c⟩)
  ·exact .inl (by omega)
  ·exact .inr ⟨by omega,.inl (by omega)⟩
theorem zC6{a b:EdN}{w:World}:Sp PP 246 #[agg a,agg b] w λv w'=>v=.int .i64 (cfE a b)/\Gw w w':=by
 refine eN ?_;refine rbx λp w1 n1 c=>rbx λq r n2 d=>drawRE TBok mixed (λ_=>False) (.one 0 (.one 1 (.one 2 (.one 3 (.one 5 (.one 6 (.one 7 (.one 8 (.one 4 (.one 9 (.one 10 (.one 11 (.one 12 .nil))))))))))))) (by kernel_rfl) λx y l=>?_;refine tX c rfl nf (tX d rfl nf ?_);refine tX c rfl nf (tX d rfl nf ?_);refine rcall zAc ?_;rintro v z ⟨rfl,rfl⟩;refine⟨Fr.refl _ _,?_⟩;refine rcall zAc ?_;rintro v A ⟨rfl,rfl⟩;refine⟨Fr.refl _ _,?_⟩;refine rbsN [cmpI a.f b.f,cmpI a.t b.t] rfl (vs:=[.int .i64 (cmpI a.f b.f),.int .i64 (cmpI a.t b.t)]) rfl rfl (by decide) λC E h o=>⟨h.e,?_⟩;refine rcall (zBT o (by simp)) ?_;rintro v F ⟨rfl,rfl⟩;refine⟨Fr.refl _ _,?_⟩;exact⟨rfl,n1.gw.trans (n2.gw.trans (l.trans h.gw))⟩
def nextLt {α:Type} (lt:α->α->Prop) (l:List α):Prop:=∀i (h:i+1<l.length),lt l[i] l[i+1]
theorem zAZ{α:Type}{lt:α->α->Prop}(c:∀x y z,lt x y->lt y z->lt x z){l:List α}:nextLt lt l↔l.Pairwise lt:=by
 constructor
 ·intro h;rw [QX];intro i j hi e b;have f:=Nat.exists_eq_add_of_lt b;obtain⟨d,rfl⟩:=f;clear b
  induction d with
  |zero=>exact h i e
  |succ d o=>exact c _ _ _ (o (by omega)) (h (i+d+1) e)
 ·intro h i hi;exact QX.1 h i (i+1) (by omega) hi (by omega)
theorem ltE_tr(x y z:EdN)(h:ltE x y)(k:ltE y z):ltE x z:=by unfold ltE at *;omega
theorem ltW_tr(x y z:ByteArray)(h:ltW x y)(k:ltW y z):ltW x z:=List.lt_trans h k
theorem zEp{c:Nat}{l:List ByteArray}{w:World}(h:SlF w (.slice a n c) l)(J:l.length<=1000000):
  Sp PP 156 #[.slice a n c,orderV 243] w λv w'=>Tells (l.Pairwise ltW) v/\Stp w w':=by
 have d:=h.len;obtain rfl:=d;refine eN ?_;refine rbx λK w1 n1 r=>?_
 refine loop1 TBok 6 [4] 5 (λv u=>∃k:Nat,v=.int .i64 ((k:Int)+1)/\(k=0\/k+1<=l.length)/\(∀i (h:i+1<l.length),i<k->ltW l[i] l[i+1])/\Stp w1 u) (λv _=>l.length+1 - (Go.RowKit.intOf v).toNat) rfl
  ⟨0,rfl,.inl rfl,λi _ hi=>by omega,stp⟩ ?_
 rintro v g u ⟨k,rfl,L,b,e⟩;refine ite (λhlt=>?_) (λz=>⟨.t ((zAZ ltW_tr).1 λi hi=>b i hi (by omega)),stp⟩);have o:k+1<l.length:=by omega
 refine dQ 13 λA M=>tX r rfl nf (rarE (y:=((k:Nat):Int)) (by omega) (by omega) ?_);have p:=h.up (w':=A);refine tix p (x:=l[k]) (by simp) λN O C _=>tload1 (C.cell0 rfl) nf (tix (i:=k+1) p (x:=l[k+1]) (by simp) λQ R E _=>tload1 (E.cell0 rfl) nf (rcall zCA ?_));rintro v S ⟨rfl,rfl⟩;refine⟨Fr.refl _ _,?_⟩;refine ite (λF=>⟨.f λG=>?_,stp⟩) (λF=>?_)
 ·have:=(zAZ ltW_tr).2 G k o;have:=(zEi _ _).2 this;omega
 ·have H:ltW l[k] l[k+1]:=(zEi _ _).1 (by omega);refine rA ⟨⟨k+1,rfl,.inr (by omega),λi hi I=>?_,stp⟩,?_⟩
  ·have d:=QH i k;rcases d with q|q
   ·exact b i hi q
   ·have d:i=k:=by omega
    obtain rfl:=d;exact H
  ·show l.length+1 - (((k:Int)+1+1)).toNat<l.length+1 - (((k:Int)+1)).toNat;omega
theorem zFn{c:Nat}{l:List EdN}{w:World}(h:SlF w (.slice a n c) l)(L:l.length<=1000000):
  Sp PP 159 #[.slice a n c,orderV 246] w λv w'=>Tells (l.Pairwise ltE) v/\Stp w w':=by
 have d:=h.len;obtain rfl:=d;refine eN ?_;refine rbx λM w1 n1 A=>?_
 refine loop1 TBok 6 [4] 5 (λv u=>∃k:Nat,v=.int .i64 ((k:Int)+1)/\(k=0\/k+1<=l.length)/\(∀i (h:i+1<l.length),i<k->ltE l[i] l[i+1])/\Stp w1 u) (λv _=>l.length+1 - (Go.RowKit.intOf v).toNat) rfl
  ⟨0,rfl,.inl rfl,λi _ hi=>by omega,stp⟩ ?_
 rintro v g u ⟨k,rfl,N,b,e⟩;refine ite (λhlt=>?_) (λC=>⟨.t ((zAZ ltE_tr).1 λi hi=>b i hi (by omega)),stp⟩);have o:k+1<l.length:=by omega
 refine dQ 13 λp O=>tX A rfl nf (rarE (y:=((k:Nat):Int)) (by omega) (by omega) ?_);have q:=h.up (w':=p);refine tix q (x:=l[k]) (by simp) λQ R E _=>tloadA E rfl nf (tix (i:=k+1) q (x:=l[k+1]) (by simp) λS U F _=>tloadA F rfl nf (rcall zC6 ?_));rintro v G ⟨rfl,r⟩;have V:Stp p G:=⟨r.ext⟩;refine⟨r.ext,?_⟩;refine ite (λH=>⟨.f λI=>?_,stp⟩) (λH=>?_)
 ·have:=(zAZ ltE_tr).2 I k o;have:=(zF0 _ _).2 this;omega
 ·have J:ltE l[k] l[k+1]:=(zF0 _ _).1 (by omega);refine rA ⟨⟨k+1,rfl,.inr (by omega),λi hi K=>?_,stp⟩,?_⟩
  ·have d:=QH i k;rcases d with z|z
   ·exact b i hi z
   ·have d:i=k:=by omega
    obtain rfl:=d;exact J
  ·show l.length+1 - (((k:Int)+1+1)).toNat<l.length+1 - (((k:Int)+1)).toNat;omega
structure GrChk (g:GrD):Prop where
 n1:1<=g.n
 n2:g.n<=200
 ne:g.es.length<=2000
 nw:g.ws.length=g.n
 ed:∀e∈g.es,e.f<g.n/\e.t<g.n
 word:∀l∈g.ws,l.length<=8/\∀s∈l,WordB s
theorem GrIs.chk(h:GrIs g):GrChk g:=⟨h.ok.n1,h.ok.n2,h.ne,h.nw,h.ok.ed,h.word⟩
theorem zJZ:GrIs g↔GrChk g/\g.es.Pairwise ltE/\∀l∈g.ws,l.Pairwise ltW:=
 ⟨λh=>⟨h.chk,h.er,h.wr⟩,λ⟨h,b,c⟩=>⟨⟨h.n1,h.n2,h.ed⟩,h.ne,h.nw,h.word,b,c⟩⟩
theorem zC9{x:RGr}{v:Int}{w:World}:Sp PP 244 #[agg x,.int .i64 v] w λr w'=>Tells (0<=v/\v<x.n) r/\Stp w w':=by
 refine eN ?_;refine rbx λb w1 n1 e=>ite (λc=>?_) (λc=>⟨.f (λh=>c h.1),stp⟩);refine rX e rfl ?_;exact ite (λd=>⟨.t ⟨c,d⟩,stp⟩) (λd=>⟨.f (λh=>d h.2),stp⟩)
theorem zDU{x:RGr}{vs:List SV}{w:World}(V:GrV w x g vs):Sp PP 158 #[agg x] w λv w'=>Tells (GrChk g) v/\Stp w w':=by
 have hn:=V.n;have M:=V.es.len;have N:=V.ws.len;have O:=V.rows.1;have z:=V.small;obtain⟨Q,S,U⟩:=z;refine eN ?_;refine rbx λb w1 n1 A=>rX A rfl (ite (λW=>⟨.f (λh=>by have:=h.n1;omega),stp⟩) (λW=>?_));refine rX A rfl (ite (λX=>⟨.f (λh=>by have:=h.n2;omega),stp⟩) (λX=>?_));refine rX A rfl (ite (λY=>⟨.f (λh=>by have:=h.ne;omega),stp⟩) (λY=>?_));refine rX A rfl (rX A rfl (ite (λZ=>⟨.f (λh=>by have:=h.nw;omega),stp⟩) (λZ=>?_)));refine rX A rfl (cN 32 [2,4] 32 g.es.length (λk u=>(∀e∈g.es.take k,e.f<g.n/\e.t<g.n)/\Stp w1 u) ⟨by simp,stp⟩ ?_);rintro k gf u hk ⟨o,e⟩;refine ite (λhlt=>?_) (λG=>?_)
 ·have q:k<g.es.length:=by omega
  have C:¬(g.es[k].f<g.n/\g.es[k].t<g.n)->¬GrChk g:=λh H=>h (H.ed _ (Qa _));refine rix (V.es.up (w':=u)) (x:=g.es[k]) (by simp) λb2 o2 I=>rloadA I rfl (ral λb3 w3 n3 z3=>rE z3 (g.es[k]) λL F f4 _=>?_);have s4:Stp u L:=n3.st f4;have F:Bk L b3 (enc g.es[k]) 159:=F;refine rG A x (rX F rfl (rcall (zC9 (x:=x)) ?_));rintro _ w5 ⟨⟨rfl,h5⟩|⟨rfl,h5⟩,e5⟩
  case' inr=>exact⟨.f (C (by omega)),stp⟩
  refine rG A x (rX F rfl (rcall (zC9 (x:=x)) ?_));rintro _ w6 ⟨⟨rfl,h6⟩|⟨rfl,h6⟩,e6⟩
  case' inr=>exact⟨.f (C (by omega)),stp⟩
  refine rA ⟨rfl,q,λt d=>?_,stp⟩;rw [take_add q] at d;have z:=Qf.1 d;rcases z with d|d
  ·exact o t d
  ·rw [Qc.1 d];omega
 have z:k=g.es.length:=by omega
 obtain rfl:=z;rw [Qg] at o;refine rX A rfl (cN 52 [2,6] 52 vs.length (λk u'=>(∀l∈g.ws.take k,l.length<=8/\∀s∈l,WordB s)/\Stp u u') ⟨by simp,stp⟩ ?_);rintro k gf u' hk ⟨c,e'⟩;refine ite (λhlt=>?_) (λG=>?_)
 ·have q:k<vs.length:=by omega
  have E:k<g.ws.length:=by omega
  have C:¬(g.ws[k].length<=8/\∀s∈g.ws[k],WordB s)->¬GrChk g:=λh H=>h (H.word _ (Qa _));refine rix (V.ws.up (w':=u')) (x:=vs[k]) (by simp) λb2 o2 I=>rload1 (I.cell0 rfl) ?_;have R:=(V.rows.up (w':=u')).2 k q E;have hl:=R.len;refine ite (λh7=>⟨.f (C (by omega)),stp⟩) (λh7=>?_);refine rcall (zBE (first:=[]) (cap:=[]) (p:=λs=>¬WordB s) R (by omega) (λr u1 hr _=>zG0 (V.words _ (Qa _) r hr))) ?_;rintro _ w5 ⟨⟨rfl,J⟩|⟨rfl,J⟩,e5⟩
  ·exact⟨.f (C λ⟨_,h⟩=>by obtain⟨y,hy,K⟩:=J;exact K (h y hy)),stp⟩
  ·refine rA ⟨rfl,q,λt d=>?_,stp⟩;rw [take_add E] at d;have z:=Qf.1 d;rcases z with d|d
   ·exact c t d
   ·rw [Qc.1 d];exact⟨by omega,λs hs=>Q2.1 λh=>J ⟨s,hs,h⟩⟩
 ·have z:k=vs.length:=by omega
  obtain rfl:=z;rw [Qj (by omega)] at c;exact⟨.t ⟨by omega,by omega,by omega,by omega,o,c⟩,stp⟩
theorem zJD{c:Nat}{l:List ByteArray}{w:World}(h:SlF w (.slice a n c) l)(d:l.length<=1000000):
  Sp PP 155 #[.slice a n c] w λv w'=>Tells (¬l.Pairwise ltW) v/\Stp w w':=by
 refine eN ?_;refine rcall zAH ?_;rintro _ w1 ⟨rfl,e⟩;refine rcall (zEp (h.up (w':=w1)) d) ?_;rintro _ o ⟨⟨rfl,b⟩|⟨rfl,b⟩,p⟩
 ·exact⟨.f (λh=>h b),stp⟩
 ·exact⟨.t b,stp⟩
theorem zDJ{x:RGr}{vs:List SV}{w:World}(V:GrV w x g vs):Sp PP 92 #[agg x] w λv w'=>Tells (GrIs g) v/\Stp w w':=by
 refine eN ?_;refine rbx λb w1 n1 q=>dQ 16 λH W=>tG q x nf (rcall (zDU (V.up (w':=H))) ?_);rintro _ X ⟨⟨rfl,c⟩|⟨rfl,c⟩,C⟩
 case' inr=>exact⟨C.e,⟨.f (λh=>c h.chk),stp⟩⟩
 refine⟨C.e,?_⟩;refine tX q rfl nf (rcall zCa ?_);rintro _ I ⟨rfl,J⟩;refine⟨J.e,?_⟩;refine rcall (zFn (V.es.up (w':=I)) V.small.1) ?_;rintro _ E ⟨⟨rfl,r⟩|⟨rfl,r⟩,F⟩
 case' inr=>exact⟨F.e,⟨.f (λh=>r h.er),stp⟩⟩
 refine⟨F.e,?_⟩;refine tX q rfl nf ?_;have y:=V.rows.up (w':=E);refine rcall (zDj (p:=λi=>∃K:i<g.ws.length,¬(g.ws[i]).Pairwise ltW) (V.ws.up (w':=E)) V.small.2.1 (λi hi M L=>?_)) ?_
 ·have d:i<g.ws.length:=by rw [<-y.1];exact hi
  have N:SlF M vs[i].v g.ws[i]:=(y.2 i hi d).ext L
  exact(zJD (l:=g.ws[i]) N (V.small.2.2 _ (Qa _))).mono λv Y ⟨o,O⟩=>⟨by
   rcases o with ⟨rfl,o⟩|⟨rfl,o⟩
   ·exact .t ⟨d,o⟩
   ·exact .f λ⟨_,Q⟩=>o Q,O⟩
 rintro _ Z ⟨⟨rfl,z⟩|⟨rfl,z⟩,G⟩
 ·refine⟨G.e,.f (λh=>?_),stp⟩;obtain⟨i,_,K,c⟩:=z;exact c (h.wr _ (Qa _))
 ·refine⟨G.e,.t (zJZ.2 ⟨c,r,?_⟩),stp⟩;intro l R;have S:=QI.1 R;obtain⟨i,hi,rfl⟩:=S;have A:i<vs.length:=by have:=y.1;omega
  exact Q2.1 λU=>z ⟨i,A,hi,U⟩
end Go.W
namespace Go.Proofs
open Go.Shelf Tryz
def Tryz.sortE_ren:Go.Shelf.Ren:=⟨fun|6=>324|15=>165|14=>373|28=>259|29=>260|20=>395|21=>396|22=>397|23=>398|24=>399|25=>400|26=>401|27=>402|46=>426|47=>330|48=>331|49=>427|50=>428|57=>444|n=>n,fun|22=>74|24=>159|25=>248|3=>3|39=>256|0=>0|53=>334|55=>336|4=>4|46=>328|45=>327|50=>116|5=>5|9=>9|66=>386|70=>390|76=>433|77=>434|n=>n,fun|n=>n⟩
theorem Tryz.sortE:Go.Proofs.SlLaysF0.n6 prog Tryz.sortE_ren:={
 mixed:=by kernel_rfl
 f6:=⟨f324.name,by decide,W.ff func324⟩
 f14:=⟨f373.name,by decide,W.ff func373⟩
 f15:=W.ff func165
 f20:=⟨f395.name,by decide,W.ff func395⟩
 f21:=⟨f396.name,by decide,W.ff func396⟩
 f22:=⟨f397.name,by decide,W.ff func397⟩
 f23:=⟨f398.name,by decide,W.ff func398⟩
 f24:=⟨f399.name,by decide,W.ff func399⟩
 f25:=⟨f400.name,by decide,W.ff func400⟩
 f26:=⟨f401.name,by decide,W.ff func401⟩
 f27:=⟨f402.name,by decide,W.ff func402⟩
 f28:=W.ff func259
 f29:=W.ff func260
 f46:=⟨f426.name,by decide,W.ff func426⟩
 f47:=W.ff func330
 f48:=W.ff func331
 f49:=⟨f427.name,by decide,W.ff func427⟩
 f50:=⟨f428.name,by decide,W.ff func428⟩
 f57:=⟨f444.name,by decide,W.ff func444⟩
 t0:=underlying0
 a0:=isAgg0
 z0:=sizeOf0
 v0:=zeroValue0
 t3:=underlying3
 a3:=isAgg3
 z3:=sizeOf3
 v3:=zeroValue3
 t4:=underlying4
 a4:=isAgg4
 z4:=sizeOf4
 v4:=zeroValue4
 t5:=underlying5
 a5:=isAgg5
 z5:=sizeOf5
 v5:=zeroValue5
 t9:=underlying9
 a9:=isAgg9
 z9:=sizeOf9
 v9:=zeroValue9
 t22:=underlying74
 a22:=isAgg74
 z22:=sizeOf74
 v22:=zeroValue74
 t25:=underlying248
 a25:=isAgg248
 z25:=sizeOf248
 v25:=zeroValue248
 t39:=underlying256
 a39:=isAgg256
 z39:=sizeOf256
 v39:=zeroValue256
 t45:=underlying327
 a45:=isAgg327
 z45:=sizeOf327
 v45:=zeroValue327
 t46:=underlying328
 a46:=isAgg328
 z46:=sizeOf328
 v46:=zeroValue328
 t50:=underlying116
 a50:=isAgg116
 z50:=sizeOf116
 v50:=zeroValue116
 t53:=underlying334
 a53:=isAgg334
 z53:=sizeOf334
 v53:=zeroValue334
 t55:=underlying336
 a55:=isAgg336
 z55:=sizeOf336
 v55:=zeroValue336
 t66:=underlying386
 a66:=isAgg386
 z66:=sizeOf386
 v66:=zeroValue386
 t70:=underlying390
 a70:=isAgg390
 z70:=sizeOf390
 v70:=zeroValue390
 t76:=underlying433
 a76:=isAgg433
 z76:=sizeOf433
 v76:=zeroValue433
 t77:=underlying434
 a77:=isAgg434
 z77:=sizeOf434
 v77:=zeroValue434 }
end Go.Proofs
namespace Go.Proofs
open Go.Shelf Tryz
def Tryz.sortW_ren:Go.Shelf.Ren:=⟨fun|6=>327|15=>165|14=>374|28=>259|29=>260|20=>403|21=>404|22=>405|23=>406|24=>407|25=>408|26=>409|27=>410|46=>429|47=>330|48=>331|49=>430|50=>431|57=>445|n=>n,fun|22=>38|24=>9|25=>242|3=>3|39=>256|0=>0|53=>334|55=>336|4=>4|46=>328|45=>327|50=>116|5=>5|9=>9|66=>386|70=>390|76=>433|77=>434|n=>n,fun|n=>n⟩
theorem Tryz.sortW:Go.Proofs.SlLaysF.n6 prog Tryz.sortW_ren:={
 mixed:=by kernel_rfl
 f6:=⟨f327.name,by decide,W.ff func327⟩
 f14:=⟨f374.name,by decide,W.ff func374⟩
 f15:=W.ff func165
 f20:=⟨f403.name,by decide,W.ff func403⟩
 f21:=⟨f404.name,by decide,W.ff func404⟩
 f22:=⟨f405.name,by decide,W.ff func405⟩
 f23:=⟨f406.name,by decide,W.ff func406⟩
 f24:=⟨f407.name,by decide,W.ff func407⟩
 f25:=⟨f408.name,by decide,W.ff func408⟩
 f26:=⟨f409.name,by decide,W.ff func409⟩
 f27:=⟨f410.name,by decide,W.ff func410⟩
 f28:=W.ff func259
 f29:=W.ff func260
 f46:=⟨f429.name,by decide,W.ff func429⟩
 f47:=W.ff func330
 f48:=W.ff func331
 f49:=⟨f430.name,by decide,W.ff func430⟩
 f50:=⟨f431.name,by decide,W.ff func431⟩
 f57:=⟨f445.name,by decide,W.ff func445⟩
 t0:=underlying0
 a0:=isAgg0
 z0:=sizeOf0
 v0:=zeroValue0
 t3:=underlying3
 a3:=isAgg3
 z3:=sizeOf3
 v3:=zeroValue3
 t4:=underlying4
 a4:=isAgg4
 z4:=sizeOf4
 v4:=zeroValue4
 t5:=underlying5
 a5:=isAgg5
 z5:=sizeOf5
 v5:=zeroValue5
 t9:=underlying9
 a9:=isAgg9
 z9:=sizeOf9
 v9:=zeroValue9
 t22:=underlying38
 a22:=isAgg38
 z22:=sizeOf38
 v22:=zeroValue38
 a24:=isAgg9
 z24:=sizeOf9
 t25:=underlying242
 a25:=isAgg242
 z25:=sizeOf242
 v25:=zeroValue242
 t39:=underlying256
 a39:=isAgg256
 z39:=sizeOf256
 v39:=zeroValue256
 t45:=underlying327
 a45:=isAgg327
 z45:=sizeOf327
 v45:=zeroValue327
 t46:=underlying328
 a46:=isAgg328
 z46:=sizeOf328
 v46:=zeroValue328
 t50:=underlying116
 a50:=isAgg116
 z50:=sizeOf116
 v50:=zeroValue116
 t53:=underlying334
 a53:=isAgg334
 z53:=sizeOf334
 v53:=zeroValue334
 t55:=underlying336
 a55:=isAgg336
 z55:=sizeOf336
 v55:=zeroValue336
 t66:=underlying386
 a66:=isAgg386
 z66:=sizeOf386
 v66:=zeroValue386
 t70:=underlying390
 a70:=isAgg390
 z70:=sizeOf390
 v70:=zeroValue390
 t76:=underlying433
 a76:=isAgg433
 z76:=sizeOf433
 v76:=zeroValue433
 t77:=underlying434
 a77:=isAgg434
 z77:=sizeOf434
 v77:=zeroValue434 }
end Go.Proofs
namespace Go.Proofs
open Go.Shelf Tryz
def Tryz.sortV_ren:Go.Shelf.Ren:=⟨fun|6=>327|15=>165|14=>374|28=>259|29=>260|20=>403|21=>404|22=>405|23=>406|24=>407|25=>408|26=>409|27=>410|46=>429|47=>330|48=>331|49=>430|50=>431|57=>445|n=>n,fun|22=>38|24=>9|25=>242|3=>3|39=>256|0=>0|53=>334|55=>336|4=>4|46=>328|45=>327|50=>116|5=>5|9=>9|66=>386|70=>390|76=>433|77=>434|n=>n,fun|n=>n⟩
theorem Tryz.sortV:Go.Proofs.SlLaysF0.n6 prog Tryz.sortV_ren:={
 mixed:=by kernel_rfl
 f6:=⟨f327.name,by decide,W.ff func327⟩
 f14:=⟨f374.name,by decide,W.ff func374⟩
 f15:=W.ff func165
 f20:=⟨f403.name,by decide,W.ff func403⟩
 f21:=⟨f404.name,by decide,W.ff func404⟩
 f22:=⟨f405.name,by decide,W.ff func405⟩
 f23:=⟨f406.name,by decide,W.ff func406⟩
 f24:=⟨f407.name,by decide,W.ff func407⟩
 f25:=⟨f408.name,by decide,W.ff func408⟩
 f26:=⟨f409.name,by decide,W.ff func409⟩
 f27:=⟨f410.name,by decide,W.ff func410⟩
 f28:=W.ff func259
 f29:=W.ff func260
 f46:=⟨f429.name,by decide,W.ff func429⟩
 f47:=W.ff func330
 f48:=W.ff func331
 f49:=⟨f430.name,by decide,W.ff func430⟩
 f50:=⟨f431.name,by decide,W.ff func431⟩
 f57:=⟨f445.name,by decide,W.ff func445⟩
 t0:=underlying0
 a0:=isAgg0
 z0:=sizeOf0
 v0:=zeroValue0
 t3:=underlying3
 a3:=isAgg3
 z3:=sizeOf3
 v3:=zeroValue3
 t4:=underlying4
 a4:=isAgg4
 z4:=sizeOf4
 v4:=zeroValue4
 t5:=underlying5
 a5:=isAgg5
 z5:=sizeOf5
 v5:=zeroValue5
 t9:=underlying9
 a9:=isAgg9
 z9:=sizeOf9
 v9:=zeroValue9
 t22:=underlying38
 a22:=isAgg38
 z22:=sizeOf38
 v22:=zeroValue38
 t25:=underlying242
 a25:=isAgg242
 z25:=sizeOf242
 v25:=zeroValue242
 t39:=underlying256
 a39:=isAgg256
 z39:=sizeOf256
 v39:=zeroValue256
 t45:=underlying327
 a45:=isAgg327
 z45:=sizeOf327
 v45:=zeroValue327
 t46:=underlying328
 a46:=isAgg328
 z46:=sizeOf328
 v46:=zeroValue328
 t50:=underlying116
 a50:=isAgg116
 z50:=sizeOf116
 v50:=zeroValue116
 t53:=underlying334
 a53:=isAgg334
 z53:=sizeOf334
 v53:=zeroValue334
 t55:=underlying336
 a55:=isAgg336
 z55:=sizeOf336
 v55:=zeroValue336
 t66:=underlying386
 a66:=isAgg386
 z66:=sizeOf386
 v66:=zeroValue386
 t70:=underlying390
 a70:=isAgg390
 z70:=sizeOf390
 v70:=zeroValue390
 t76:=underlying433
 a76:=isAgg433
 z76:=sizeOf433
 v76:=zeroValue433
 t77:=underlying434
 a77:=isAgg434
 z77:=sizeOf434
 v77:=zeroValue434 }
end Go.Proofs
namespace Go.W
open Go Go.Proofs
open Enc (enc)
set_option maxRecDepth 10000
variable {B hi i j k m n n2:Nat} {D:Nat -> Prop} {P:Program} {T:Tab} {a a' a2:Option Addr} {g:GrD} {ps:List Int} {s:List UInt8} {u u' w':World}
theorem zP0:Go.Sort.SWO (ltOf cfE):=swo_of ltE zF0 (λx h=>by unfold ltE at h;omega) (λx y z=>ltE_tr x y z) (λx y z h k=>by unfold ltE at *;omega)
def cfW (a b:ByteArray):Int:=Lib.compareBytes a.data.toList b.data.toList
theorem zMz(a b:ByteArray):cfW a b<0↔ltW a b:=zEi _ _
theorem zP1:Go.Sort.SWO (ltOf cfW):=swo_of ltW zMz (λx h=>List.lt_irrefl _ h) (λx y z=>ltW_tr x y z) (λx y z h k=>by
 unfold ltW at *;exact XZ.2 (List.le_trans (XZ.1 k) (XZ.1 h)))
theorem zFr(a b:ByteArray):ltW a b\/a=b\/ltW b a:=by
 unfold ltW;have c:=Xw (a.data.toList<b.data.toList);rcases c with h|h
 ·exact .inl h
 ·have c:=Xw (b.data.toList<a.data.toList);rcases c with d|d
  ·exact .inr (.inr d)
  ·have:=List.le_antisymm (XZ.1 d) (XZ.1 h);refine .inr (.inl ?_)
   have e:a.data=b.data:=by
    have:=congrArg List.toArray this;simpa using this
   cases a;cases b;simp_all
theorem zN9(a b:EdN):ltE a b\/a=b\/ltE b a:=by
 obtain⟨d,a2⟩:=a;obtain⟨e,f⟩:=b;unfold ltE;have c:=VG d e;rcases c with h|rfl|h
 ·exact .inl (.inl h)
 ·have c:=VG a2 f;rcases c with h|rfl|h
  ·exact .inl (.inr ⟨rfl,h⟩)
  ·exact .inr (.inl rfl)
  ·exact .inr (.inr (.inr ⟨rfl,h⟩))
 ·exact .inr (.inr (.inl h))
theorem zJv{α:Type}{lt:α->α->Prop}{l l':List α}(e:∀a b,lt a b\/a=b\/lt b a)(f:l.Nodup)(o:l'.Perm l)(p:l'.Pairwise λa b=>lt b a->False):l'.Pairwise lt:=by
 have c:=o.nodup_iff.2 f;rw [Qx] at c
 exact(p.and c).imp λ{a b} h=>by
  have q:=e a b;rcases q with d|d|d
  ·exact d
  ·exact absurd d h.2
  ·exact(h.1 d).elim
theorem zHu{c:Nat}{l:List EdN}{w:World}(h:SlF w (.slice a n c) l)(hd:l.Nodup)(A:l.length<=1000000):
  Sp PP 325 #[.slice a n c] w λv w'=>v=.slice a n c/\Stp w w':=by
 have f:=h.len;obtain rfl:=f;refine eN ?_;refine ite (λo=>⟨rfl,stp⟩) (λo=>?_);refine loop1 TBok 9 [2,4,5] 3 (λv u=>∃k:Nat,v=.int .i64 ((k:Int)+1)/\k+1<=l.length/\Stp w u) (λv _=>l.length+1 - (Go.RowKit.intOf v).toNat) rfl ⟨0,rfl,by omega,stp⟩ ?_;rintro v g u ⟨k,rfl,C,e⟩;refine ite (λhlt=>?_) (λp=>⟨rfl,stp⟩);have q:k+1<l.length:=by omega
 refine dQ 10 λr E=>?_;have b:=h.up (w':=r);refine tix (i:=k+1) b (x:=l[k+1]) (by simp) λF G t _=>tloadA t rfl nf (rarE (y:=((k:Nat):Int)) (by omega) (by omega) (tix b (x:=l[k]) (by simp) λH I z _=>tloadA z rfl nf (tgeq EdN l[k+1] l[k] (λd=>?_) (λd=>?_))))
 ·have:=(VQ hd).1 d;omega
 ·refine rA ⟨⟨k+1,rfl,by omega,stp⟩,?_⟩;show l.length+1 - (((k:Int)+1+1)).toNat<l.length+1 - (((k:Int)+1)).toNat;omega
theorem zGd{c:Nat}{l:List ByteArray}{w:World}(h:SlF w (.slice a n c) l)(hd:l.Nodup)(A:l.length<=1000000):
  Sp PP 328 #[.slice a n c] w λv w'=>v=.slice a n c/\Stp w w':=by
 have f:=h.len;obtain rfl:=f;refine eN ?_;refine ite (λo=>⟨rfl,stp⟩) (λo=>?_);refine loop1 TBok 9 [2,4,5] 3 (λv u=>∃k:Nat,v=.int .i64 ((k:Int)+1)/\k+1<=l.length/\Stp w u) (λv _=>l.length+1 - (Go.RowKit.intOf v).toNat) rfl ⟨0,rfl,by omega,stp⟩ ?_;rintro v g u ⟨k,rfl,C,e⟩;refine ite (λhlt=>?_) (λp=>⟨rfl,stp⟩);have q:k+1<l.length:=by omega
 refine dQ 10 λr E=>?_;have b:=h.up (w':=r);refine tix (i:=k+1) b (x:=l[k+1]) (by simp) λF G t _=>tload1 (t.cell0 rfl) nf (rarE (y:=((k:Nat):Int)) (by omega) (by omega) (tix b (x:=l[k]) (by simp) λH I z _=>tload1 (z.cell0 rfl) nf (tseq (λd=>?_) (λd=>?_))))
 ·have:=(VQ hd).1 d;omega
 ·refine rA ⟨⟨k+1,rfl,by omega,stp⟩,?_⟩;show l.length+1 - (((k:Int)+1+1)).toNat<l.length+1 - (((k:Int)+1)).toNat;omega
theorem zER{c:Nat}{l:List EdN}{w:World}(h:SlF w (.slice a n c) l)(t:l.length<=1000000):Sp PP 162 #[.slice a n c] w λv w'=>Own w.heap.size 159 w' v l/\Stp w w':=by
 obtain rfl:=h.len;refine eN ?_;refine rsnil (λe=>?_) (λe=>?_)
 ·have q:l=[]:=by
   obtain⟨a',x,r,_,d⟩:=h;cases r;rcases d with d|⟨b,o,f,_⟩
   ·exact d
   ·rw [e] at f;cases f
  subst q;exact⟨Own.nil _ _ _,stp⟩
 ·refine rbs (α:=EdN) [] rfl (vs:=[]) rfl rfl (by decide) λy w1 n1 _=>?_;have z:Stp w w1:=⟨n1.ext⟩;refine rapp (u:=w) ⟨rfl,rfl⟩ (Own.nil' _ 159 _ _) (h.up (w':=w1)) (by simp;omega) λA C p E F=>?_;rw [Je] at p;exact⟨p,stp⟩
theorem zHt{c:Nat}{l:List ByteArray}{w:World}(h:SlF w (.slice a n c) l)(t:l.length<=1000000):Sp PP 326 #[.slice a n c] w λv w'=>Own w.heap.size 9 w' v l/\Stp w w':=by
 obtain rfl:=h.len;refine eN ?_;refine rsnil (λe=>?_) (λe=>?_)
 ·have q:l=[]:=by
   obtain⟨a',x,r,_,d⟩:=h;cases r;rcases d with d|⟨b,o,f,_⟩
   ·exact d
   ·rw [e] at f;cases f
  subst q;exact⟨Own.nil _ _ _,stp⟩
 ·refine rbs (α:=ByteArray) [] rfl (vs:=[]) rfl rfl (by decide) λy w1 n1 _=>?_;have z:Stp w w1:=⟨n1.ext⟩;refine rapp (u:=w) ⟨rfl,rfl⟩ (Own.nil' _ 9 _ _) (h.up (w':=w1)) (by simp;omega) λA C p E F=>?_;rw [Je] at p;exact⟨p,stp⟩
theorem zBr{c:Nat}{l:List EdN}{w:World}(h:SlF w (.slice a n c) l)(hd:l.Nodup)(p:l.length<=1000000):
  Sp PP 248 #[.slice a n c,orderV 246] w λv w'=>(∃l',l'.Perm l/\l'.Pairwise ltE/\Own w.heap.size 159 w' v l')/\Stp w w':=by
 refine eN ?_;refine rbx λH w1 n1 q=>rcall (zER (h.up (w':=w1)) p) ?_;rintro v t ⟨z,I⟩;refine rX q rfl (rcall (zCZ Tryz.sortE (k:=2) (show Agg PP 159 2 from inferInstance) rfl cfE zP0 (f:=324) rfl (λx y W=>zC6) z (by omega)) ?_);rintro r A ⟨rfl,l',d,C,e,E⟩;have J:Stw w1 t A:=zAI E;have o:=zJv zN9 hd d (C.imp λ{a b} h k=>h ((zF0 _ _).2 k));have K:=d.length_eq;have F:=e.shape;obtain⟨a3,c3,rfl⟩:=F;refine rcall (zHu e.sl (d.nodup_iff.2 hd) (by omega)) ?_;rintro v G ⟨rfl,L⟩;exact⟨⟨l',d,o,(e.up (w':=G)).mono (lz w w1)⟩,stp⟩
theorem zAf{c:Nat}{l:List ByteArray}{w:World}(h:SlF w (.slice a n c) l)(hd:l.Nodup)(p:l.length<=1000000):
  Sp PP 249 #[.slice a n c,orderV 243] w λv w'=>(∃l',l'.Perm l/\l'.Pairwise ltW/\Own w.heap.size 9 w' v l')/\Stp w w':=by
 refine eN ?_;refine rbx λJ w1 n1 q=>rcall (zHt (h.up (w':=w1)) p) ?_;rintro v t ⟨z,K⟩;refine rX q rfl (rcall (zPG Tryz.sortW Tryz.sortV (val:=Value.string) (λ_=>rfl) cfW zP1 (f:=327) rfl rfl (λx y W=>zCA.mono λv w' ⟨A,C⟩=>⟨A,C ▸ Gw.refl _⟩) z (by omega)) ?_);rintro r E ⟨rfl,l',d,F,e,G⟩;have L:Stw w1 t E:=zAI G;have o:=zJv zFr hd d (F.imp λ{a b} h k=>h ((zMz _ _).2 k));have M:=d.length_eq;have H:=e.shape;obtain⟨a3,c3,rfl⟩:=H;refine rcall (zGd e.sl (d.nodup_iff.2 hd) (by omega)) ?_;rintro v I ⟨rfl,N⟩;exact⟨⟨l',d,o,(e.up (w':=I)).mono (lz w w1)⟩,stp⟩
abbrev PanI:List PanicEntry:=[{ v:=.iface 27 (.int .i64 30),recovered:=false }]
abbrev ImB (w:World) (b:Nat) (s:List UInt8) (A:Nat):Prop:=Bk w b [txt s,.int .i64 (A:Int)] 156
instance:Conc PP 27:={}
theorem zG3{A b:Nat}{x:Value}{c:Nat}{w:World}(B:ImB w b s A):Sp PP 150 #[.pointer (some ⟨b,0,none⟩),x,.int .i64 (c:Int),.bool true] w λv w'=>v=x/\ImB w' b s c/\Fr (λi=>i=b) w w':=by
 refine eN ?_;exact rS B [.int .i64 (c:Int)] (zAa _) λw1 d e _=>⟨rfl,d,e⟩
theorem zG2{p x:Value}{a:Int}{w:World}:SpP PP 150 #[p,x,.int .i64 a,.bool false] w (λ_ _=>False) (λc w'=>c=PanI/\w'=w):=by
 refine enP TBok rfl ?_;exact rmki (rpanic ⟨rfl,rfl⟩)
theorem zGh{A b:Nat}{x:Value}{c:Nat}{w:World}(B:ImB w b s A):Sp PP 152 #[.pointer (some ⟨b,0,none⟩),x,.int .i64 (c:Int),.bool true] w λv w'=>v=x/\ImB w' b s c/\Fr (λi=>i=b) w w':=by
 refine eN ?_;exact rS B [.int .i64 (c:Int)] (zAa _) λw1 d e _=>⟨rfl,d,e⟩
theorem zGg{p x:Value}{a:Int}{w:World}:SpP PP 152 #[p,x,.int .i64 a,.bool false] w (λ_ _=>False) (λc w'=>c=PanI/\w'=w):=by
 refine enP TBok rfl ?_;exact rmki (rpanic ⟨rfl,rfl⟩)
theorem zFa{A b:Nat}{x:Value}{c:Nat}{w:World}(B:ImB w b s A):Sp PP 154 #[.pointer (some ⟨b,0,none⟩),x,.int .i64 (c:Int),.bool true] w λv w'=>v=x/\ImB w' b s c/\Fr (λi=>i=b) w w':=by
 refine eN ?_;exact rS B [.int .i64 (c:Int)] (zAa _) λw1 d e _=>⟨rfl,d,e⟩
theorem zE9{p x:Value}{a:Int}{w:World}:SpP PP 154 #[p,x,.int .i64 a,.bool false] w (λ_ _=>False) (λc w'=>c=PanI/\w'=w):=by
 refine enP TBok rfl ?_;exact rmki (rpanic ⟨rfl,rfl⟩)
theorem zA2{A b:Nat}{w:World}(B:ImB w b s A)(q:s.length<=4611686018427387904):
  SpP PP 88 #[.pointer (some ⟨b,0,none⟩)] w (λv w'=>∃n d:Nat,RdsV rdN s A n d/\v=.int .i64 (n:Int)/\ImB w' b s d/\Fr (λi=>i=b) w w')
   (λc w'=>c=PanI/\rdN (s.drop A)=none/\Fr (λi=>i=b) w w'):=by
 refine enP TBok rfl ?_;refine dQ 16 λw1 y=>tX B rfl nf (tX B rfl nf ?_);refine rcall (zCN (A:=A) q) ?_;rintro _ l ⟨⟨n,d,r,rfl⟩|⟨f,rfl⟩,o⟩
 ·refine⟨o.e,?_⟩;refine rcall (zG3 (B.mv (w:=l))) ?_;rintro _ p ⟨rfl,t,x⟩;exact⟨n,d,r,rfl,t,(fE w l).trans x⟩
 ·refine⟨o.e,?_⟩;refine rcallP zG2 (λ_ _ h=>h.elim) ?_;rintro _ p ⟨rfl,rfl⟩;exact⟨rfl,f,fE w p⟩
theorem zFb{A b:Nat}{w:World}(B:ImB w b s A)(x:s.length<=4611686018427387904):
  SpP PP 89 #[.pointer (some ⟨b,0,none⟩)] w (λv w'=>∃(l:List Nat) (d:Nat),RdsV rdRow s A l d/\Own w.heap.size 3 w' v (intsN l)/\ImB w' b s d/\Fr (λi=>i=b) w w')
   (λc w'=>c=PanI/\rdRow (s.drop A)=none/\Fr (λi=>i=b) w w'):=by
 refine enP TBok rfl ?_;refine dQ 16 λw1 C=>tX B rfl nf (tX B rfl nf ?_);refine rcall (zFd (A:=A) x) ?_;rintro _ o ⟨⟨l,d,E,y,rfl,O⟩|⟨f,rfl⟩,p⟩
 ·refine⟨p.e,?_⟩;have q:=B.mv (w:=o);refine rcall (zGh q) ?_;rintro _ r ⟨rfl,z,t⟩;exact⟨l,d,y,(O.frc t q).mono (lz w w1),z,(fE w o).trans t⟩
 ·refine⟨p.e,?_⟩;refine rcallP zGg (λ_ _ h=>h.elim) ?_;rintro _ r ⟨rfl,rfl⟩;exact⟨rfl,f,fE w r⟩
theorem zEs{A b:Nat}{w:World}(B:ImB w b s A)(q:s.length<=4611686018427387904):
  SpP PP 91 #[.pointer (some ⟨b,0,none⟩)] w (λv w'=>∃(x:List UInt8) (d:Nat),RdsV rdT s A x d/\v=txt x/\ImB w' b s d/\Fr (λi=>i=b) w w')
   (λc w'=>c=PanI/\rdT (s.drop A)=none/\Fr (λi=>i=b) w w'):=by
 refine enP TBok rfl ?_;refine dQ 16 λw1 z=>tX B rfl nf (tX B rfl nf ?_);refine rcall (zDi (A:=A) q) ?_;rintro _ l ⟨⟨x,d,r,rfl⟩|⟨f,rfl⟩,o⟩
 ·refine⟨o.e,?_⟩;refine rcall (zFa (B.mv (w:=l))) ?_;rintro _ p ⟨rfl,t,y⟩;exact⟨x,d,r,rfl,t,(fE w l).trans y⟩
 ·refine⟨o.e,?_⟩;refine rcallP zE9 (λ_ _ h=>h.elim) ?_;rintro _ p ⟨rfl,rfl⟩;exact⟨rfl,f,fE w p⟩
theorem zAX{A b:Nat}{w:World}(B:ImB w b s A)(K:A<=s.length)(L:s.length<=4611686018427387904):
  SpP PP 90 #[.pointer (some ⟨b,0,none⟩),.int .i64 (n:Int),.int .i64 8,.func (.func 91) #[] #[]] w
   (λv w'=>∃(l:List (List UInt8)) (f:Nat),n<=8/\RdsV (rdMany rdT n) s A l f/\Own w.heap.size 9 w' v (l.map bsOf)/\ImB w' b s f/\Fr (λi=>i=b) w w')
   (λc w'=>c=PanI/\(n<=8->rdMany rdT n (s.drop A)=none)/\Fr (λi=>i=b) w w'):=by
 refine enP TBok rfl ?_;refine ite (λh=>?_) (λh=>?_)
 ·exact rmki (rpanic ⟨rfl,λM=>by omega,Fr.refl _ _⟩)
 refine cO 15 [] 9 15 n (λk v u=>Fr (λi=>i=b) w u/\∃d f,d.length=k/\f<=s.length/\Own w.heap.size 9 u v (d.map bsOf)/\ImB u b s f/\preR d (rdMany rdT (n - k) (s.drop f))=rdMany rdT n (s.drop A))
  ⟨Fr.refl _ _,[],A,rfl,K,Own.nil _ _ _,B,by rw [zBP,JF]⟩ ?_
 rintro k v g u hk ⟨q,d,f,N,t,O,y,z⟩;refine ite (λhlt=>?_) (λQ=>?_)
 ·have o:n - k=(n - (k+1))+1:=by omega
  refine rcallP (zEs y L) ?_ ?_
  ·rintro _ R ⟨x,S,G,rfl,U,p⟩;have H:=O.frc p y;refine bS (bsOf x) λb4 r I _ V=>?_;have C:w.heap.size<=r.heap.size:=by have h1:=q.size;have M:=p.size;have h3:=I.e.size;omega
   refine rappB ⟨rfl,rfl⟩ (H.up (w':=r)) V C (by simp;omega) λW X Y J=>?_;have Z:=(U.mv (w:=r)).fro (H.up (w':=r)) J;have E:Own w.heap.size 9 X W ((d++[x]).map bsOf):=by rw [QB];exact Y
   refine rA ⟨rfl,by omega,Fr.new ((q.trans p).trans (Fr.fr I.e)) J (λi hi=>hi.1),d++[x],S,by simp [N],G.1,E,Z,?_⟩;rw [<-z,o,zAF G.2]
  ·rintro _ R ⟨rfl,F,p⟩;refine⟨rfl,λ_=>?_,q.trans p⟩;rw [<-z,o,zA7 F];rfl
 ·have q_:k=n:=by omega
  obtain rfl:=q_;refine⟨d,f,by omega,⟨t,?_⟩,O,y,q⟩;rw [<-z,JN];simp [rdMany,preR]
section
variable {P:Program} {k:Value->World->Prop} {pn:List PanicEntry->World->Prop} {w:World}
theorem rsslN{t:TypeId}[b:StrT P t]{s:ByteArray}{y:Value}(c:y=.int .i64 hi)(f:hi<=s.size)(d:k (.string (s.extract 0 hi)) w):SemV P (Instr.sliceAt t (.string s) none (some y) none) k pn w:=by
 subst c;have e:(0:Int)<=(hi:Int)/\(hi:Int)<=(s.size:Int):=by omega
 refine SemV.of (w':=w) ?_ d;unfold Instr.sliceAt;simp only [Qo,zAw b.h,Qh];unfold Instr.slice;simp [Qo,zAw b.h,Qh,Instr.sliceBounds,Instr.sliceBound,asIntOf,e];exact λh=>absurd h (by omega)
theorem rsslL{t:TypeId}[b:StrT P t]{s:ByteArray}{lo:Nat}{y:Value}(c:y=.int .i64 lo)(f:lo<=s.size)(d:k (.string (s.extract lo s.size)) w):SemV P (Instr.sliceAt t (.string s) (some y) none none) k pn w:=by
 subst c;have e:(0:Int)<=(lo:Int)/\(lo:Int)<=(s.size:Int):=by omega
 refine SemV.of (w':=w) ?_ d;unfold Instr.sliceAt;simp only [Qo,zAw b.h,Qh];unfold Instr.slice;simp [Qo,zAw b.h,Qh,Instr.sliceBounds,Instr.sliceBound,asIntOf,e];exact λh=>absurd h (by omega)
end
abbrev zGr:RGr:=⟨0,⟨none,0,0⟩,⟨none,0,0⟩⟩
theorem zEK{p:List UInt8}{w:World}:Sp PP 236 #[txt s,txt p] w λv w'=>Tells (p <+: s) v/\w'=w:=by
 have e:=zAd s;have b:=zAd p;refine eN ?_;refine ite (λc=>?_) (λc=>⟨.f (λh=>?_),rfl⟩)
 ·refine rsslN (hi:=(⟨p.toArray⟩:ByteArray).size) rfl (by omega) ?_;refine rseq (λh=>⟨.t ?_,rfl⟩) (λh=>⟨.f (λd=>h ?_),rfl⟩)
  ·rw [zBa,b] at h;have:=zOM h;rw [Jf,JF] at this;rw [<-this];exact List.take_prefix _ _
  ·obtain⟨t,rfl⟩:=d;rw [zBa,b];simp
 ·have:=h.length_le;omega
theorem zB6{p:List UInt8}{w:World}:Sp PP 87 #[txt s,txt p] w λv w'=>((p <+: s/\v=.tuple #[txt (s.drop p.length),.bool true])\/(¬p <+: s/\v=.tuple #[txt s,.bool false]))/\w'=w:=by
 have d:=zAd s;have f:=zAd p
 have h:Sp PP 149 #[txt s,txt p] w λv w'=>((p <+: s/\v=.tuple #[txt (s.drop p.length),.bool true])\/(¬p <+: s/\v=.tuple #[txt s,.bool false]))/\w'=w:=by
  refine eN ?_;refine rcall zEK ?_;rintro _ _ ⟨⟨rfl,c⟩|⟨rfl,c⟩,rfl⟩
  ·have l:=c.length_le
   have e:(⟨s.toArray⟩:ByteArray).extract (⟨p.toArray⟩:ByteArray).size (⟨s.toArray⟩:ByteArray).size=⟨(s.drop p.length).toArray⟩:=by
    rw [f,d,zBa,<-QR,Qg]
   refine rsslL (lo:=(⟨p.toArray⟩:ByteArray).size) rfl (by omega) ?_;exact⟨.inl ⟨c,congrArg (λb=>Value.tuple #[.string b,.bool true]) e⟩,rfl⟩
  ·exact⟨.inr ⟨c,rfl⟩,rfl⟩
 refine eN ?_;refine rcall h ?_;rintro _ _ ⟨⟨c,rfl⟩|⟨c,rfl⟩,rfl⟩
 ·exact⟨.inl ⟨c,rfl⟩,rfl⟩
 ·exact⟨.inr ⟨c,rfl⟩,rfl⟩
theorem zCJ{bx be:Nat}{w:World}:SpD PP 86 #[.pointer (some ⟨bx,0,none⟩),.pointer (some ⟨be,0,none⟩)] .returning w λu' w'=>u'=.returning/\w'=w:=by
 refine SpD.enter TBok rfl rfl rfl rfl rfl rfl rfl (λ_ _=>rfl) rfl rfl ?_;refine rtaN ?_;exact⟨rfl,rfl,rfl⟩
theorem zCI{bx be:Nat}{x:RGr}{e:Int}{w:World}(f:Bk w bx (enc x) 77)(l:Bk w be [.int .i64 e] 27)(b:¬be=bx):
  SpD PP 86 #[.pointer (some ⟨bx,0,none⟩),.pointer (some ⟨be,0,none⟩)] (.panicking PanI) w λu' w'=>settle u'=.returning/\Bk w' bx (enc zGr) 77/\Bk w' be [.int .i64 30] 27/\Fr (λi=>i=bx\/i=be) w w':=by
 refine SpD.enter TBok rfl rfl rfl rfl rfl rfl rfl (λ_ _=>rfl) rfl rfl ?_;refine rta (rbuild (cs:=enc zGr) rfl (rE f zGr λq o c _=>rS (l.fr c b) [.int .i64 30] (zAa _) λr p d _=>?_));exact⟨rfl,rfl,o.fr d (λh=>b h.symm),p,(c.mono λi _ hi=>.inl hi).trans (d.mono λi _ hi=>.inr hi)⟩
theorem zG7{α:Type}{f:List UInt8->Option (α×List UInt8)}{P:α->Prop}(h:∀r x t,f r=some (x,t)->P x):∀(n:Nat) (r:List UInt8) (l:List α) (t:List UInt8),rdMany f n r=some (l,t)->l.length=n/\∀x∈l,P x
 |0,r,l,t,e=>by simp [rdMany] at e;obtain⟨rfl,_⟩:=e;simp
 |n+1,r,l,t,e=>by
  unfold rdMany at e
  cases b:f r with
  |none=>rw [b] at e;cases e
  |some p =>
   obtain⟨x,v⟩:=p;rw [b] at e;dsimp only at e
   cases c:rdMany f n v with
   |none=>rw [c] at e;cases e
   |some q =>
    obtain⟨w,C⟩:=q;rw [c] at e;simp only [JK,Xm] at e;obtain⟨rfl,rfl⟩:=e;have d:=zG7 h n v w _ c;obtain⟨z,A⟩:=d;refine⟨by simp [z],λy o=>?_⟩;have d:=Ql.1 o;rcases d with rfl|o
    ·exact h _ _ _ b
    ·exact A y o
theorem zJn{r t:List UInt8}{x:List UInt8}(h:rdT r=some (x,t)):x.length<=4000:=by
 unfold rdT at h;split at h
 ·split at h
  ·rename_i b;cases h;rw [Qm];omega
  ·cases h
 ·cases h
theorem zGJ{r t:List UInt8}{l:List Nat}(h:rdRow r=some (l,t)):l.length<=4000:=by
 unfold rdRow at h;split at h
 ·split at h
  ·have:=(zG7 (P:=λ_=>True) (λ_ _ _ _=>trivial) _ _ _ _ h).1;omega
  ·cases h
 ·cases h
theorem zEB{r t:List UInt8}{l:List (List UInt8)}(h:rdWs r=some (l,t)):l.length<=8/\∀x∈l,x.length<=4000:=by
 unfold rdWs at h;split at h
 ·split at h
  ·have:=zG7 (P:=λx:List UInt8=>x.length<=4000) (λ_ _ _ h=>zJn h) _ _ _ _ h;exact⟨by omega,this.2⟩
  ·cases h
 ·cases h
abbrev PlSm (p:List Nat×List (List UInt8)):Prop:=p.1.length<=4000/\p.2.length<=8/\∀x∈p.2,x.length<=4000
theorem zB4{r t:List UInt8}{p:List Nat×List (List UInt8)}(h:rdPl r=some (p,t)):PlSm p:=by
 unfold rdPl at h;split at h
 ·rename_i l d c;split at h
  ·rename_i e u b;cases h;exact⟨zGJ c,(zEB b).1,(zEB b).2⟩
  ·cases h
 ·cases h
theorem zCo:∀(b:List (List Nat)) (v:Nat),(∀l∈b,l.length<=4000)->(edsOf v b).length<=b.length*4000
 |[],_,_=>by simp [edsOf]
 |l::b,v,h=>by
  have d:=h l Qs;have e:=zCo b (v+1) λl c=>h l (QF _ c);rw [edsOf,Qb,Qr,QA];omega
def RowsO (B:Nat) (w:World) (vs:List SV) (ls:List (List ByteArray)):Prop:=vs.length=ls.length/\∀i (h:i<vs.length) (h':i<ls.length),Own B 9 w vs[i].v ls[i]
theorem RowsO.v{w:World}{vs:List SV}{b:List (List ByteArray)}(h:RowsO B w vs b):RowsV w vs b:=⟨h.1,λi c d=>(h.2 i c d).sl⟩
theorem RowsO.up{w:World}[Le w w']{vs:List SV}{b:List (List ByteArray)}(h:RowsO B w vs b):RowsO B w' vs b:=⟨h.1,λi c d=>(h.2 i c d).up⟩
theorem RowsO.frc{d:TypeId}{w:World}{vs:List SV}{e:List (List ByteArray)}{b:Nat}{cs:List Value}(h:RowsO B w vs e)(f:Fr (λi=>i=b) w w')(k:Bk w b cs d)(c:9≠d:=by decide):RowsO B w' vs e:=⟨h.1,λi l o=>(h.2 i l o).frc f k c⟩
theorem RowsO.fro{c:Type}[Enc c]{C:Nat}{d:TypeId}{w:World}{e:Value}{l':List c}{vs:List SV}{l:List (List ByteArray)}(h:RowsO B w vs l)(k:Own C d w e l')(f:Fr (ownD C e) w w')(b:9≠d:=by decide):RowsO B w' vs l:=⟨h.1,λi o p=>(h.2 i o p).fro k f b⟩
theorem RowsO.add{w:World}{vs:List SV}{b:List (List ByteArray)}(h:RowsO B w vs b){v:SV}{l:List ByteArray}(O:Own B 9 w v.v l):RowsO B w (vs++[v]) (b++[l]):=by
 refine⟨by simp [h.1],λi c d=>?_⟩;have e:=h.1;rw [VR,VR];by_cases hi:i<vs.length
 ·rw [dif_pos hi,dif_pos (by omega)];exact h.2 i hi (by omega)
 ·rw [dif_neg hi,dif_neg (by omega)];simp only [List.getElem_singleton];exact O
abbrev rowsOf (ps:List (List Nat×List (List UInt8))):List (List Nat):=ps.map λp=>p.1
abbrev ImgT (s:List UInt8) (w:World) (v:Value) (w':World):Prop:=
 ((∃g x vs,imgOf s=some g/\v=.tuple #[agg x,.int .i64 0]/\GrV w' x g vs)\/(imgOf s=none/\v=.tuple #[agg zGr,.int .i64 30]))/\Stp w w'
structure PaJ (w:World) (s:List UInt8) (bg be br N:Nat) (u:World) (es:List EdN) (A:Nat) (ea:Option Addr) (ec:Nat) (wa:Option Addr) (wc:Nat) (vs:List SV) (ws:List (List ByteArray)):Prop where
 rd:ImB u br s A
 g:Bk u bg [.int .i64 (N:Int),.slice ea es.length ec,.slice wa vs.length wc] 77
 e:Bk u be [.int .i64 0] 27
 es:Own w.heap.size 159 u (.slice ea es.length ec) es
 wo:Own w.heap.size 38 u (.slice wa vs.length wc) vs
 rows:RowsO w.heap.size u vs ws
 st:Stp w u
abbrev wdsOf (ps:List (List Nat×List (List UInt8))):List (List ByteArray):=ps.map λp=>p.2.map bsOf
structure ParI (w:World) (s:List UInt8) (bg be br N A1 k:Nat) (u:World) (es:List EdN) (ps:List (List Nat×List (List UInt8))) (A:Nat) (ea:Option Addr) (ec:Nat) (wa:Option Addr) (wc:Nat) (vs:List SV):Prop extends PaJ w s bg be br N u es A ea ec wa wc vs (wdsOf ps) where
 len:ps.length=k
 at':A<=s.length
 pre:preR ps (rdMany rdPl (N - k) (s.drop A))=rdMany rdPl N (s.drop A1)
 sm:∀p∈ps,PlSm p
section
variable {w:World} {s:List UInt8} {bg be br N:Nat} {u u':World} {es:List EdN} {A:Nat} {ea:Option Addr} {ec:Nat} {wa:Option Addr} {wc:Nat} {vs:List SV} {ws:List (List ByteArray)}
theorem PaJ.up[Le u u'][Stp u u'](J:PaJ w s bg be br N u es A ea ec wa wc vs ws):PaJ w s bg be br N u' es A ea ec wa wc vs ws:=
 ⟨J.rd.mv,J.g.mv,J.e.mv,J.es.up,J.wo.up,J.rows.up,⟨J.st.e.t (lE u u')⟩⟩
theorem PaJ.read{b:Nat}(J:PaJ w s bg be br N u es A ea ec wa wc vs ws)(f:Fr (λi=>i=br) u u')(R:ImB u' br s b)(c:¬bg=br)(d:¬be=br)(h:w.heap.size<=br):PaJ w s bg be br N u' es b ea ec wa wc vs ws:=
 ⟨R,J.g.fr f c,J.e.fr f d,J.es.frc f J.rd,J.wo.frc f J.rd,J.rows.frc f J.rd,⟨Fr.st J.st.e f λi hi=>hi ▸ h⟩⟩
end
theorem sv1(e:Option Addr)(n m:Nat):∀u∈[Value.slice e n m],u.oneCell'=true:=by intro u b;simp at b;subst b;rfl
theorem panQ{b:List ResultVar}{F:Nat->Value}{e:Value}{c:List PanicEntry}{R:Value->World->Prop}{f:List PanicEntry->World->Prop}{w:World}{d:Deferred}{ds:List Deferred}(h0:F 4294967296=e)(hd:decD e=d::ds)
  (h:LeaveS P b F (d::ds) (.panicking c) R f w):panS P b R f F c w:=by
 unfold panS;rw [h0,hd];exact h
theorem zK3{r:List UInt8}(h:rdRow r=none):rdPl r=none:=by unfold rdPl;rw [h]
theorem zBu{r t:List UInt8}{l:List Nat}(h:rdRow r=some (l,t))(b:rdWs t=none):rdPl r=none:=by unfold rdPl;rw [h];dsimp only;rw [b]
theorem zDY{r t u:List UInt8}{l:List Nat}{b:List (List UInt8)}(h:rdRow r=some (l,t))(c:rdWs t=some (b,u)):rdPl r=some ((l,b),u):=by unfold rdPl;rw [h];dsimp only;rw [c]
theorem zIA{r:List UInt8}(h:rdN r=none):rdWs r=none:=by unfold rdWs;rw [h]
theorem rdWs_n{r t:List UInt8}(h:rdN r=some (n,t)):rdWs r=if n<=8 then rdMany rdT n t else none:=by unfold rdWs;rw [h]
theorem rdI_eq{r:List UInt8}(h:s=119::103::r):rdI s=match rdN r with
  |some (n,t)=>if n<=200 then (match rdMany rdPl n t with|some (ps,u)=>some (n,ps,u)|none=>none) else none
  |none=>none:=by subst h;rfl
theorem img_no(h:rdI s=none):imgOf s=none:=by unfold imgOf;rw [h]
theorem zIy(h:¬[119,103] <+: s):rdI s=none:=by
 unfold rdI;split
 ·rename_i r;exact absurd ⟨r,rfl⟩ h
 ·rfl
theorem zIo{s0:List UInt8}{w:World}(d0:s0.length<=4611686018427387904):Sp PP 42 #[txt s0] w (ImgT s0 w):=by
 refine eN ?_;refine ral λQ w1 n1 z1=>ral λbe w2 n2 z2=>?_;have e9:=n1.b;have f0:=n1.s;have f2:=n2.b;have f3:=n2.s;have X2:Bk w2 Q (enc zGr) 77:=z1.mv;have E2:Bk w2 be [.int .i64 0] 27:=z2;have f7:=lz w w2;have S:¬be=Q:=by omega
 have a5:∀i,i=Q->w.heap.size<=i:=by omega
 have pan:∀{G:Nat->Value} {u:World} {x:RGr},Bk u Q (enc x) 77->Bk u be [.int .i64 0] 27->Stp w u->imgOf s0=none->ev G (.tmp 2)=.pointer (some ⟨Q,0,none⟩)->ev G (.tmp 3)=.pointer (some ⟨be,0,none⟩) ->
   LeaveS PP Tryz.f42.results.toList G [{ target:=.fn (.func 86) #[.pointer (some ⟨Q,0,none⟩),.pointer (some ⟨be,0,none⟩)],args:=#[] }] (.panicking PanI) (ImgT s0 w) (λ_ _=>False) u:=by
  intro G u x X E' e H g4 g5;refine zCS (by simp) ⟨(zCI X E' S).can,zBb (zCI X E' S).calls ?_⟩;intro en u' w' he
  cases en with
  |returned v =>
   obtain⟨h1,X',E',f'⟩:=he;show LeaveS PP _ _ [] (settle u') _ _ w';rw [h1];refine leave_ret ?_;show resS PP [.cell 2 _,.cell 3 _] [] G _ w';simp only [resS,g4,g5];refine rresG (B:=X') rfl ?_;refine rres (B:=E') rfl ?_;exact⟨.inr ⟨H,rfl⟩,⟨Fr.st e.e f' λi hi=>by omega⟩⟩
  |panicked c=>exact he
  |outgrown=>exact he
 by_cases E:[119,103] <+: s0
 case neg =>
  refine rcall (zB6 (s:=s0) (p:=[119,103])) ?_;rintro _ _ ⟨⟨d1,rfl⟩|⟨_,rfl⟩,rfl⟩
  ·exact absurd d1 E
  refine rmki (rpanic ?_);exact pan X2 E2 stp (img_no (zIy E)) rfl rfl
 obtain⟨s,rfl⟩:=E
 have c2:Sp PP 87 #[txt ([119,103]++s),txt [119,103]] w2 λv w'=>v=.tuple #[txt s,.bool true]/\w'=w2:=(zB6 (s:=[119,103]++s) (p:=[119,103])).mono λv w' h=>by
  rcases h with ⟨⟨_,h1⟩|⟨h1,_⟩,h2⟩
  ·exact⟨h1,h2⟩
  ·exact absurd ⟨s,rfl⟩ h1
 refine rcall c2 ?_;rintro _ _ ⟨rfl,rfl⟩;have hs:s.length<=4611686018427387904:=by simp at d0;omega
 have hI:=rdI_eq (s:=[119,103]++s) (r:=s) rfl;refine rbuild (cs:=[txt s,.int .i64 0]) rfl (rbx λbr w3 n3 B3=>?_);have f8:=n3.b;have R3:ImB w3 br s 0:=B3;clear B3;have a3:∀i,i=br->w.heap.size<=i:=by omega
 have z:¬Q=br:=by omega
 have I:¬be=br:=by omega
 have X3:=X2.mv (w:=w3);have E3:=E2.mv (w:=w3);refine rcallP (zA2 R3 hs) ?_ ?_
 case' refine_2 =>
  rintro _ w4 ⟨rfl,H,f4⟩;have s4:Stp w w4:=⟨Fr.st Le.e f4 a3⟩;rw [Jf] at H;rw [H] at hI;exact pan (X3.fr f4 z) (E3.fr f4 I) s4 (img_no hI) rfl rfl
 rintro _ w4 ⟨N,A1,hr,rfl,R4,f4⟩;have s4:Stp w w4:=⟨Fr.st Le.e f4 a3⟩;have c3:=hr.2;rw [Jf] at c3;rw [c3] at hI;have X4:=X3.fr f4 z;have E4:=E3.fr f4 I;refine rS X4 [.int .i64 (N:Int)] (zAa _) λw5 X5 f5 _=>?_;have X5:Bk w5 Q [.int .i64 (N:Int),.slice none 0 0,.slice none 0 0] 77:=X5;have s5:Stp w w5:=⟨Fr.st s4.e f5 a5⟩;have E5:=E4.fr f5 S;have R5:=R4.fr f5 (λh=>z h.symm);refine rX X5 rfl (ite (λc4=>?_) (λc4=>?_))
 ·refine rmki (rpanic ?_);exact pan (x:=⟨N,⟨none,0,0⟩,⟨none,0,0⟩⟩) X5 E5 s5 (img_no (by rw [hI];exact if_neg (by omega))) rfl rfl
 have b3:rdI ([119,103]++s)=match rdMany rdPl N (s.drop A1) with|some (ps,u)=>some (N,ps,u)|none=>none:=hI.trans (if_pos (by omega))
 clear hI;refine rX X5 rfl ?_
 refine cN 31 [7,9] 31 N (λk u=>∃ps A ea ec wa wc vs,ParI w s Q be br N A1 k u (edsOf 0 (rowsOf ps)) ps A ea ec wa wc vs)
  ⟨([]:List (List Nat×List (List UInt8))),A1,none,0,none,0,[],⟨R5,X5,E5,Own.nil _ _ _,Own.nil _ _ _,⟨rfl,λi h=>absurd h (by simp)⟩,s5⟩,rfl,hr.1,by rw [zBP,JF],by simp⟩ ?_
 rintro k gf u hk ⟨ps,A,ea,ec,wa,wc,vs,J⟩;have d2:=J.rows.1;rw [Qr,J.len] at d2;refine ite (λhlt=>?_) (λf9=>?_)
 case' refine_2 =>
  have q_:k=N:=by omega
  obtain rfl:=q_;have hd:rdMany rdPl k (s.drop A1)=some (ps,s.drop A):=by rw [<-J.pre,JN];simp [rdMany,preR]
  rw [hd] at b3;have c5:=zCo (rowsOf ps) 0 (by intro l hl;obtain⟨p,E,rfl⟩:=Qq.1 hl;exact(J.sm p E).1);rw [Qr,J.len] at c5
  have V:GrV u ⟨k,⟨ea,(edsOf 0 (rowsOf ps)).length,ec⟩,⟨wa,vs.length,wc⟩⟩ (grOf k ps) vs:=⟨rfl,J.es.sl,J.wo.sl,J.rows.v,⟨by show (edsOf 0 (rowsOf ps)).length<=1000000;omega,by omega,λl hl=>by obtain⟨p,E,rfl⟩:=Qq.1 hl;have:=(J.sm p E).2.1;simp;omega⟩,λl hl x hx=>by
   have q_:=Qq.1 hl;obtain⟨p,E,rfl⟩:=q_;have q_:=Qq.1 hx;obtain⟨y,hy,rfl⟩:=q_;have:=(J.sm p E).2.2 y hy;have h2:=zAd y;show (⟨y.toArray⟩:ByteArray).size<=_;omega⟩
  have hz:=zAd s;have JR:=J.rd;have JG:=J.g;have JE:=J.e;have Js:=J.st;refine rX JR rfl (ite (λh1=>?_) (λh1=>?_))
  ·refine rmki (rpanic ?_);refine pan (x:=⟨k,⟨ea,(edsOf 0 (rowsOf ps)).length,ec⟩,⟨wa,vs.length,wc⟩⟩) JG JE Js ?_ rfl rfl;unfold imgOf;rw [b3];dsimp only;rw [if_neg];rintro⟨h2,_⟩;have:=congrArg List.length h2;rw [QR] at this;simp at this;have:=J.at';omega
  have hA:s.drop A=[]:=by rw [List.drop_eq_nil_iff];omega
  refine rG JG (⟨k,⟨ea,(edsOf 0 (rowsOf ps)).length,ec⟩,⟨wa,vs.length,wc⟩⟩:RGr) (rcall (zDJ V) ?_);rintro _ u2 ⟨⟨rfl,hg⟩|⟨rfl,hg⟩,e2⟩
  ·have G2:=JG.mv (w:=u2);have d3:=JE.mv (w:=u2);refine rG G2 (⟨k,⟨ea,(edsOf 0 (rowsOf ps)).length,ec⟩,⟨wa,vs.length,wc⟩⟩:RGr) (rE G2 (⟨k,⟨ea,(edsOf 0 (rowsOf ps)).length,ec⟩,⟨wa,vs.length,wc⟩⟩:RGr) λu3 X6 f6 _=>?_);have X6:Bk u3 Q (enc (⟨k,⟨ea,(edsOf 0 (rowsOf ps)).length,ec⟩,⟨wa,vs.length,wc⟩⟩:RGr)) 77:=X6;have E6:=d3.fr f6 S;refine rS E6 [.int .i64 0] (zAa _) λu4 E7 q _=>?_;have X7:=X6.fr q (λh=>S h.symm);have s7:Stp w u4:=⟨Fr.st (Fr.st (Js.e.t e2.e) f6 a5) q λi hi=>by omega⟩;have O7:=((J.es.up (w':=u2)).frc f6 G2).frc q E6;have W7:=((J.wo.up (w':=u2)).frc f6 G2).frc q E6;have Q7:=((J.rows.up (w':=u2)).frc f6 G2).frc q E6;refine zCS (by simp) ⟨(zCJ (bx:=Q) (be:=be) (w:=u4)).can,zBb (zCJ (bx:=Q) (be:=be) (w:=u4)).calls ?_⟩;intro en u' w' hh
   cases en with
   |returned v =>
    obtain⟨rfl,rfl⟩:=hh;refine leave_ret ?_;refine rresG (B:=X7) rfl ?_;refine rres (B:=E7) rfl ?_;refine⟨.inl ⟨grOf k ps,_,vs,?_,rfl,⟨rfl,O7.sl,W7.sl,Q7.v,V.small,V.words⟩⟩,s7⟩;unfold imgOf;rw [b3];dsimp only;rw [if_pos ⟨hA,hg⟩]
   |panicked c=>exact hh
   |outgrown=>exact hh
  ·refine rmki (rpanic ?_);refine pan (x:=⟨k,⟨ea,(edsOf 0 (rowsOf ps)).length,ec⟩,⟨wa,vs.length,wc⟩⟩) (JG.mv (w:=u2)) (JE.mv (w:=u2)) ⟨Js.e.t e2.e⟩ ?_ rfl rfl;unfold imgOf;rw [b3];dsimp only;rw [if_neg];exact λh=>hg h.2
 have b7:N - k=(N - (k+1))+1:=by omega
 have Y:rdPl (s.drop A)=none->imgOf ([119,103]++s)=none:=λh=>img_no (b3.trans (by rw [<-J.pre,b7,zA7 h];rfl));have J0:=J.toPaJ;have a9:=J.pre;have c0:=J.sm;have b0:=J.len;refine rcallP (zFb J.rd hs) ?_ ?_
 case' refine_2 =>
  rintro _ u1 ⟨rfl,H,f1⟩;have d4:=J.g.fr f1 z;have d5:=J.e.fr f1 I;exact pan (x:=⟨N,⟨ea,(edsOf 0 (rowsOf ps)).length,ec⟩,⟨wa,vs.length,wc⟩⟩) d4 d5 ⟨Fr.st J.st.e f1 a3⟩ (Y (zK3 H)) rfl rfl
 rintro v1 u1 ⟨l,A2,U,O1,B1,f1⟩;have J1:=J0.read f1 B1 z I (by omega);have g0:=zGJ U.2;have d6:=zCo (rowsOf ps) 0 (by intro l hl;obtain⟨p,E,rfl⟩:=Qq.1 hl;exact(J.sm p E).1);rw [Qr,J.len] at d6;have d7:=Qw J.st.e.size (Qe _);have O1:=O1.mono d7;have q_:=O1.shape;obtain⟨ra,rc,rfl⟩:=q_;have d8:(intsN l).length=l.length:=by simp [intsN]
 refine cN 37 [9] 37 (intsN l).length (λj u'=>∃ea ec,PaJ w s Q be br N u' (edsOf 0 (rowsOf ps)++(l.take j).map λt=>⟨k,t⟩) A2 ea ec wa wc vs (wdsOf ps)/\Own w.heap.size 3 u' (.slice ra (intsN l).length rc) (intsN l))
  ⟨ea,ec,by simpa using J1,O1⟩ ?_
 rintro j g1 u2 hj ⟨K,L,J2,O2⟩;refine ite (λe7=>?_) (λe8=>?_)
 case' refine_1 =>
  have c8:j<l.length:=by omega
  have d9:=J2.g;have c9:(edsOf 0 (rowsOf ps)++(l.take j).map λt=>(⟨k,t⟩:EdN)).length<=1000000:=by rw [Qb,Qr,Qm];omega
  refine rix O2.sl (x:=(l[j]:Int)) (by simp [intsN,c8]) λb4 o4 A4=>rload1 (A4.cell0 rfl) (rX d9 rfl (rbuild (cs:=enc (⟨k,l[j]⟩:EdN)) rfl (rbs1 (α:=EdN) ⟨k,l[j]⟩ rfl rfl (by decide) λb5 u5 e5 _ S5=>?_)));have s2:=J2.st;have Z:=J2.up (u':=u5);have a0:=Z.g;refine rapp1 (u:=w) ⟨rfl,rfl⟩ Z.es S5 (by omega) λv6 u6 O6 f6 s6=>?_;have G6:=a0.fro Z.es f6;have e0:edsOf 0 (rowsOf ps)++(l.take (j+1)).map (λt=>(⟨k,t⟩:EdN))=(edsOf 0 (rowsOf ps)++(l.take j).map λt=>(⟨k,t⟩:EdN))++[⟨k,l[j]⟩]:=by rw [take_add c8,QB,Qp];rfl
  rw [<-e0] at O6;have q_:=O6.shape;obtain⟨a6,c6,rfl⟩:=q_;refine rS G6 [.slice a6 (edsOf 0 (rowsOf ps)++(l.take (j+1)).map λt=>(⟨k,t⟩:EdN)).length c6] (sv1 _ _ _) λu7 O q _=>?_
  have J7:PaJ w s Q be br N u7 (edsOf 0 (rowsOf ps)++(l.take (j+1)).map λt=>(⟨k,t⟩:EdN)) A2 a6 c6 wa wc vs (wdsOf ps):=
   ⟨(Z.rd.fro Z.es f6).fr q (λh=>z h.symm),O,(Z.e.fro Z.es f6).fr q S,O6.frc q G6,(Z.wo.fro Z.es f6).frc q G6,(Z.rows.fro Z.es f6).frc q G6,⟨Fr.st (lE w u6) q a5⟩⟩
  have O7:=((O2.up (w':=u5)).fro Z.es f6).frc q G6;exact rA ⟨rfl,by omega,a6,c6,J7,O7⟩
 have q_:j=(intsN l).length:=by omega
 obtain rfl:=q_;rw [d8,Qg] at J2;have c9:(edsOf 0 (rowsOf ps)++l.map λt=>(⟨k,t⟩:EdN))=edsOf 0 (rowsOf ps++[l]):=by rw [zEl,JO,Qr,J.len]
 rw [c9] at J2;clear J0 J1;refine dT (λ_=>True) (oL [0,2,3] (.duo 1 (oL [4,5,6,7,8,9] .nil) 4 (.duo 1 (oL [5,6,7,8,9] .nil) 5 (.duo 1 (oL [6,7,8,9] .nil) 6 (.lone 1 (oL [7,8,9] .nil)))))) λu3 e3=>?_;have J3:=J2.up (u':=u3);have a4:w.heap.size<=br:=by omega
 have g2:vs.length<=200:=by omega
 clear J2 J R5 X5 E5 E4 X4 R4 E3 X3 R3 X2 E2;refine⟨?_,?_⟩
 ·have e4:=J3.g;refine rX e4 rfl ⟨Fr.refl _ _,?_⟩;have NS:=zA2 J3.rd hs;refine rcallP NS ?_ ?_
  case' refine_2 =>
   rintro _ u4 ⟨rfl,H,M⟩;have b8:=J3.g.fr M z;have c1:=J3.e.fr M I;intro F' ag;show panS PP Tryz.f42.results.toList (ImgT ([119,103]++s) w) (λ_ _=>False) F' PanI _;refine panQ (ag 4294967296 rfl) (d:={ target:=.fn (.func 86) #[.pointer (some ⟨Q,0,none⟩),.pointer (some ⟨be,0,none⟩)],args:=#[] }) (ds:=[]) rfl ?_;exact pan (x:=⟨N,⟨K,(edsOf 0 (rowsOf ps++[l])).length,L⟩,⟨wa,vs.length,wc⟩⟩) b8 c1 ⟨Fr.st J3.st.e M a3⟩ (Y (zBu U.2 (zIA H))) (ag 2 rfl) (ag 3 rfl)
  rintro _ u4 ⟨n1,A3,b1,rfl,R4,M⟩;refine⟨Fr.mono M λ_ _ _=>trivial,?_⟩;have J4:=J3.read M R4 z I a4;have hW:=rdWs_n b1.2;have SS:=zAX (n:=n1) J4.rd b1.1 hs;refine rcallP SS ?_ ?_
  case' refine_2 =>
   rintro _ u5 ⟨rfl,H,C⟩;have a0:=J4.g.fr C z;have b9:=J4.e.fr C I;intro F' ag;show panS PP Tryz.f42.results.toList (ImgT ([119,103]++s) w) (λ_ _=>False) F' PanI _;refine panQ (ag 4294967296 rfl) (d:={ target:=.fn (.func 86) #[.pointer (some ⟨Q,0,none⟩),.pointer (some ⟨be,0,none⟩)],args:=#[] }) (ds:=[]) rfl ?_;exact pan (x:=⟨N,⟨K,(edsOf 0 (rowsOf ps++[l])).length,L⟩,⟨wa,vs.length,wc⟩⟩) a0 b9 ⟨Fr.st J4.st.e C a3⟩ (Y (zBu U.2 (by rw [hW];split;exact H (by assumption);rfl))) (ag 2 rfl) (ag 3 rfl)
  rintro _ u5 ⟨o,A4,b2,W,O5,R5,C⟩;refine⟨Fr.mono C λ_ _ _=>trivial,?_⟩;have Z:=J4.read C R5 z I a4;have O5:=O5.mono J4.st.e.size;have q5:=O5.shape;obtain⟨sa,sc,rfl⟩:=q5;refine bS (⟨sa,(o.map bsOf).length,sc⟩:SV) λb6 u6 e6 _ S6=>⟨Fr.mono e6.e λ_ _ _=>trivial,?_⟩;have f:=Z.up (u':=u6);have s6:=f.st;have a1:=f.g;refine rapp1 (u:=w) ⟨rfl,rfl⟩ f.wo S6 (by omega) λv7 u7 O7 q s7=>⟨Fr.mono q λ_ _ _=>trivial,?_⟩;have O:=a1.fro f.wo q;have q7:=O7.shape;obtain⟨a7,c7,rfl⟩:=q7;refine rS O [.slice a7 (vs++[(⟨sa,(o.map bsOf).length,sc⟩:SV)]).length c7] (sv1 _ _ _) λu8 G8 F _=>⟨Fr.mono F λ_ _ _=>trivial,?_⟩;have a8:=(((O5.up (w':=u6)).fro f.wo q).frc F O);have R:=zDY U.2 (show rdWs (s.drop A2)=some (o,s.drop A4) by rw [hW,if_pos b2];exact W.2);have e1:rowsOf (ps++[(l,o)])=rowsOf ps++[l]:=by simp [rowsOf]
  have e2:wdsOf (ps++[(l,o)])=wdsOf ps++[o.map bsOf]:=by simp [wdsOf]
  have J8:PaJ w s Q be br N u8 (edsOf 0 (rowsOf (ps++[(l,o)]))) A4 K L a7 c7 (vs++[(⟨sa,(o.map bsOf).length,sc⟩:SV)]) (wdsOf (ps++[(l,o)])):=by
   rw [e1,e2];exact⟨(f.rd.fro f.wo q).fr F (λh=>z h.symm),G8,(f.e.fro f.wo q).fr F S,(f.es.fro f.wo q).frc F O,O7.frc F O,RowsO.add ((f.rows.fro f.wo q).frc F O) a8,⟨Fr.st (lE w u7) F a5⟩⟩
  refine rA ⟨rfl,by omega,ps++[(l,o)],A4,K,L,a7,c7,vs++[(⟨sa,(o.map bsOf).length,sc⟩:SV)],J8,?_,W.1,?_,?_⟩
  ·rw [Qb,b0];rfl
  ·rw [<-a9,b7,zAF R]
  ·intro p E;have q_:=Qf.1 E;rcases q_ with E|E
   ·exact c0 p E
   ·rw [Qc.1 E];exact zB4 R
 have NS:=zA2 J3.rd hs;refine rcallP NS ?_ ?_
 case' refine_2 =>
  rintro _ u4 ⟨rfl,H,M⟩;have b8:=J3.g.fr M z;have c1:=J3.e.fr M I;intro F' ag;show panS PP Tryz.f42.results.toList (ImgT ([119,103]++s) w) (λ_ _=>False) F' PanI _;refine panQ (ag 4294967296 rfl) (d:={ target:=.fn (.func 86) #[.pointer (some ⟨Q,0,none⟩),.pointer (some ⟨be,0,none⟩)],args:=#[] }) (ds:=[]) rfl ?_;exact pan (x:=⟨N,⟨K,(edsOf 0 (rowsOf ps++[l])).length,L⟩,⟨wa,vs.length,wc⟩⟩) b8 c1 ⟨Fr.st J3.st.e M a3⟩ (Y (zBu U.2 (zIA H))) (ag 2 rfl) (ag 3 rfl)
 rintro _ u4 ⟨n1,A3,b1,rfl,R4,M⟩;refine⟨Fr.mono M λ_ _ _=>trivial,?_⟩;have J4:=J3.read M R4 z I a4;have hW:=rdWs_n b1.2;refine⟨?_,?_⟩
 ·have b8:=J4.g;refine rX b8 rfl ⟨Fr.refl _ _,?_⟩;have SS:=zAX (n:=n1) J4.rd b1.1 hs;refine rcallP SS ?_ ?_
  case' refine_2 =>
   rintro _ u5 ⟨rfl,H,C⟩;have a0:=J4.g.fr C z;have b9:=J4.e.fr C I;intro F' ag;show panS PP Tryz.f42.results.toList (ImgT ([119,103]++s) w) (λ_ _=>False) F' PanI _;refine panQ (ag 4294967296 rfl) (d:={ target:=.fn (.func 86) #[.pointer (some ⟨Q,0,none⟩),.pointer (some ⟨be,0,none⟩)],args:=#[] }) (ds:=[]) rfl ?_;exact pan (x:=⟨N,⟨K,(edsOf 0 (rowsOf ps++[l])).length,L⟩,⟨wa,vs.length,wc⟩⟩) a0 b9 ⟨Fr.st J4.st.e C a3⟩ (Y (zBu U.2 (by rw [hW];split;exact H (by assumption);rfl))) (ag 2 rfl) (ag 3 rfl)
  rintro _ u5 ⟨o,A4,b2,W,O5,R5,C⟩;refine⟨Fr.mono C λ_ _ _=>trivial,?_⟩;have Z:=J4.read C R5 z I a4;have O5:=O5.mono J4.st.e.size;have q5:=O5.shape;obtain⟨sa,sc,rfl⟩:=q5;refine bS (⟨sa,(o.map bsOf).length,sc⟩:SV) λb6 u6 e6 _ S6=>⟨Fr.mono e6.e λ_ _ _=>trivial,?_⟩;have f:=Z.up (u':=u6);have s6:=f.st;have a1:=f.g;refine rapp1 (u:=w) ⟨rfl,rfl⟩ f.wo S6 (by omega) λv7 u7 O7 q s7=>⟨Fr.mono q λ_ _ _=>trivial,?_⟩;have O:=a1.fro f.wo q;have q7:=O7.shape;obtain⟨a7,c7,rfl⟩:=q7;refine rS O [.slice a7 (vs++[(⟨sa,(o.map bsOf).length,sc⟩:SV)]).length c7] (sv1 _ _ _) λu8 G8 F _=>⟨Fr.mono F λ_ _ _=>trivial,?_⟩;have a8:=(((O5.up (w':=u6)).fro f.wo q).frc F O);have R:=zDY U.2 (show rdWs (s.drop A2)=some (o,s.drop A4) by rw [hW,if_pos b2];exact W.2);have e1:rowsOf (ps++[(l,o)])=rowsOf ps++[l]:=by simp [rowsOf]
  have e2:wdsOf (ps++[(l,o)])=wdsOf ps++[o.map bsOf]:=by simp [wdsOf]
  have J8:PaJ w s Q be br N u8 (edsOf 0 (rowsOf (ps++[(l,o)]))) A4 K L a7 c7 (vs++[(⟨sa,(o.map bsOf).length,sc⟩:SV)]) (wdsOf (ps++[(l,o)])):=by
   rw [e1,e2];exact⟨(f.rd.fro f.wo q).fr F (λh=>z h.symm),G8,(f.e.fro f.wo q).fr F S,(f.es.fro f.wo q).frc F O,O7.frc F O,RowsO.add ((f.rows.fro f.wo q).frc F O) a8,⟨Fr.st (lE w u7) F a5⟩⟩
  refine rA ⟨rfl,by omega,ps++[(l,o)],A4,K,L,a7,c7,vs++[(⟨sa,(o.map bsOf).length,sc⟩:SV)],J8,?_,W.1,?_,?_⟩
  ·rw [Qb,b0];rfl
  ·rw [<-a9,b7,zAF R]
  ·intro p E;have q_:=Qf.1 E;rcases q_ with E|E
   ·exact c0 p E
   ·rw [Qc.1 E];exact zB4 R
 have SS:=zAX (n:=n1) J4.rd b1.1 hs;refine rcallP SS ?_ ?_
 case' refine_2 =>
  rintro _ u5 ⟨rfl,H,C⟩;have a0:=J4.g.fr C z;have b9:=J4.e.fr C I;intro F' ag;show panS PP Tryz.f42.results.toList (ImgT ([119,103]++s) w) (λ_ _=>False) F' PanI _;refine panQ (ag 4294967296 rfl) (d:={ target:=.fn (.func 86) #[.pointer (some ⟨Q,0,none⟩),.pointer (some ⟨be,0,none⟩)],args:=#[] }) (ds:=[]) rfl ?_;exact pan (x:=⟨N,⟨K,(edsOf 0 (rowsOf ps++[l])).length,L⟩,⟨wa,vs.length,wc⟩⟩) a0 b9 ⟨Fr.st J4.st.e C a3⟩ (Y (zBu U.2 (by rw [hW];split;exact H (by assumption);rfl))) (ag 2 rfl) (ag 3 rfl)
 rintro _ u5 ⟨o,A4,b2,W,O5,R5,C⟩;refine⟨Fr.mono C λ_ _ _=>trivial,?_⟩;have Z:=J4.read C R5 z I a4;have O5:=O5.mono J4.st.e.size;have q5:=O5.shape;obtain⟨sa,sc,rfl⟩:=q5;refine⟨?_,?_⟩
 ·have a0:=Z.g;refine rX a0 rfl ⟨Fr.refl _ _,?_⟩;refine bS (⟨sa,(o.map bsOf).length,sc⟩:SV) λb6 u6 e6 _ S6=>⟨Fr.mono e6.e λ_ _ _=>trivial,?_⟩;have f:=Z.up (u':=u6);have s6:=f.st;have a1:=f.g;refine rapp1 (u:=w) ⟨rfl,rfl⟩ f.wo S6 (by omega) λv7 u7 O7 q s7=>⟨Fr.mono q λ_ _ _=>trivial,?_⟩;have O:=a1.fro f.wo q;have q7:=O7.shape;obtain⟨a7,c7,rfl⟩:=q7;refine rS O [.slice a7 (vs++[(⟨sa,(o.map bsOf).length,sc⟩:SV)]).length c7] (sv1 _ _ _) λu8 G8 F _=>⟨Fr.mono F λ_ _ _=>trivial,?_⟩;have a8:=(((O5.up (w':=u6)).fro f.wo q).frc F O);have R:=zDY U.2 (show rdWs (s.drop A2)=some (o,s.drop A4) by rw [hW,if_pos b2];exact W.2);have e1:rowsOf (ps++[(l,o)])=rowsOf ps++[l]:=by simp [rowsOf]
  have e2:wdsOf (ps++[(l,o)])=wdsOf ps++[o.map bsOf]:=by simp [wdsOf]
  have J8:PaJ w s Q be br N u8 (edsOf 0 (rowsOf (ps++[(l,o)]))) A4 K L a7 c7 (vs++[(⟨sa,(o.map bsOf).length,sc⟩:SV)]) (wdsOf (ps++[(l,o)])):=by
   rw [e1,e2];exact⟨(f.rd.fro f.wo q).fr F (λh=>z h.symm),G8,(f.e.fro f.wo q).fr F S,(f.es.fro f.wo q).frc F O,O7.frc F O,RowsO.add ((f.rows.fro f.wo q).frc F O) a8,⟨Fr.st (lE w u7) F a5⟩⟩
  refine rA ⟨rfl,by omega,ps++[(l,o)],A4,K,L,a7,c7,vs++[(⟨sa,(o.map bsOf).length,sc⟩:SV)],J8,?_,W.1,?_,?_⟩
  ·rw [Qb,b0];rfl
  ·rw [<-a9,b7,zAF R]
  ·intro p E;have q_:=Qf.1 E;rcases q_ with E|E
   ·exact c0 p E
   ·rw [Qc.1 E];exact zB4 R
 refine bS (⟨sa,(o.map bsOf).length,sc⟩:SV) λb6 u6 e6 _ S6=>⟨Fr.mono e6.e λ_ _ _=>trivial,?_⟩;have f:=Z.up (u':=u6);have a1:=f.g;refine rX a1 rfl ⟨Fr.refl _ _,?_⟩;have s6:=f.st;have a1:=f.g;refine rapp1 (u:=w) ⟨rfl,rfl⟩ f.wo S6 (by omega) λv7 u7 O7 q s7=>⟨Fr.mono q λ_ _ _=>trivial,?_⟩;have O:=a1.fro f.wo q;have q7:=O7.shape;obtain⟨a7,c7,rfl⟩:=q7;refine rS O [.slice a7 (vs++[(⟨sa,(o.map bsOf).length,sc⟩:SV)]).length c7] (sv1 _ _ _) λu8 G8 F _=>⟨Fr.mono F λ_ _ _=>trivial,?_⟩;have a8:=(((O5.up (w':=u6)).fro f.wo q).frc F O);have R:=zDY U.2 (show rdWs (s.drop A2)=some (o,s.drop A4) by rw [hW,if_pos b2];exact W.2);have e1:rowsOf (ps++[(l,o)])=rowsOf ps++[l]:=by simp [rowsOf]
 have e2:wdsOf (ps++[(l,o)])=wdsOf ps++[o.map bsOf]:=by simp [wdsOf]
 have J8:PaJ w s Q be br N u8 (edsOf 0 (rowsOf (ps++[(l,o)]))) A4 K L a7 c7 (vs++[(⟨sa,(o.map bsOf).length,sc⟩:SV)]) (wdsOf (ps++[(l,o)])):=by
  rw [e1,e2];exact⟨(f.rd.fro f.wo q).fr F (λh=>z h.symm),G8,(f.e.fro f.wo q).fr F S,(f.es.fro f.wo q).frc F O,O7.frc F O,RowsO.add ((f.rows.fro f.wo q).frc F O) a8,⟨Fr.st (lE w u7) F a5⟩⟩
 refine rA ⟨rfl,by omega,ps++[(l,o)],A4,K,L,a7,c7,vs++[(⟨sa,(o.map bsOf).length,sc⟩:SV)],J8,?_,W.1,?_,?_⟩
 ·rw [Qb,b0];rfl
 ·rw [<-a9,b7,zAF R]
 ·intro p E;have q_:=Qf.1 E;rcases q_ with E|E
  ·exact c0 p E
  ·rw [Qc.1 E];exact zB4 R
abbrev NorT (g:GrD) (w:World) (v:Value) (w':World):Prop:=
 (∃x es,v=.tuple #[agg (x:RGr),.int .i64 0]/\es.Perm g.es/\es.Pairwise ltE/\Own w.heap.size 159 w' (.slice x.es.a x.es.n x.es.c) es/\x.n=(g.n:Int))/\Stp w w'
theorem zHF{x:RGr}{vs:List SV}{w:World}(V:GrV w x g vs)(hc:GrChk g)(hd:g.es.Nodup)(hw:∀l∈g.ws,l.Nodup):Sp PP 163 #[agg x] w (NorT g w):=by
 have a9:=V.ws.len;have b0:=V.rows.1;have b1:=hc.n2;have b3:=hc.nw;refine eN ?_;refine rbx λbx w1 n1 B1=>ral λbz w2 n2 z2=>rG B1 x (rcall (zDU (V.up (w':=w2))) ?_);rintro _ w3 ⟨⟨rfl,_⟩|⟨rfl,a8⟩,e3⟩
 case' inr=>exact absurd hc a8
 have Z3:Bk w3 bz (enc zGr) 77:=z2.mv;clear z2;have b4:=n1.b;have b5:=n1.s;have b7:=n2.b;have b8:=n2.s;have b9:=lz w2 w3;refine dT (λi=>w3.heap.size<=i) (oL [0,1,2,3] (.duo 4 (.duo 5 (oL [6,7,8] .nil) 7 (oL [5,6,8] .nil)) 7 (oL [4,5,6,8] .nil))) λw4 e4=>?_;have c0:=e4.e.size;have a4:¬w3.heap.size<=bx:=by have:=(B1.mv (w:=w3)).lt;omega
 refine tX B1 rfl a4 (tX B1 rfl a4 ?_);refine⟨?_,?_⟩
 ·refine rcall zCa ?_;rintro _ w5 ⟨rfl,e5⟩;refine⟨Fr.fr e5.e,?_⟩;refine⟨?_,?_⟩
  ·have⟨w6,a1⟩:∃w6,w6=w5:=⟨_,rfl⟩;subst a1;refine rcall (zBr (V.es.up (w':=w6)) hd V.small.1) ?_;rintro v w7 ⟨⟨t,hp,hs,O7⟩,e7⟩;refine⟨Fr.fr e7.e,?_⟩;have hl:=hp.length_eq;have q7:=O7.shape;obtain⟨F,G,rfl⟩:=q7;have O7:=O7.mono (lz w w6);refine tbuild (cs:=enc (⟨g.n,⟨F,t.length,G⟩,⟨none,0,0⟩⟩:RGr)) (by rw [<-V.n];rfl) (ral λbo X n8 N8=>⟨Fr.fr n8.e,?_⟩);have a5:=n8.b;have a6:=lz w4 w7;refine rE N8 (⟨g.n,⟨F,t.length,G⟩,⟨none,0,0⟩⟩:RGr) λw9 N9 Y _=>⟨Y.mono λi _ hi=>by subst hi;omega,?_⟩;have N9:Bk w9 bo [.int .i64 (g.n:Int),.slice F t.length G,.slice none 0 0] 77:=N9;have y:¬bz=bo:=by omega
   have z:∀i,i=bo->w.heap.size<=i:=by omega
   have s9:Stp w w9:=⟨Fr.st (lE w X) Y z⟩;have O9:=(O7.up (w':=X)).frc Y N8;have Z9:=(Z3.mv (w:=X)).fr Y y;have B9:=(B1.mv (w:=X)).fr Y (by omega);have V9:=(V.up (w':=w9));clear N8 Z3;refine rX B9 rfl ?_
   refine cN 21 [6] 21 vs.length (λk u=>∃K L c,Bk u bo [.int .i64 (g.n:Int),.slice F t.length G,.slice K c.length L] 77/\Own w.heap.size 38 u (.slice K c.length L) c/\c.length=k/\Own w.heap.size 159 u (.slice F t.length G) t/\Bk u bz (enc zGr) 77/\Stp w u)
    ⟨none,0,([]:List SV),N9,Own.nil _ _ _,rfl,O9,Z9,s9⟩ ?_
   rintro k gf u hk ⟨K,L,c,H,o,I,Z,W,su⟩;refine ite (λhlt=>?_) (λa7=>?_)
   ·have p:k<vs.length:=by omega
    have M:k<g.ws.length:=by omega
    refine rix (V.ws.up (w':=u)) (x:=vs[k]) (by simp) λb2 o2 A2=>rload1 (A2.cell0 rfl) (dT (λ_=>True) (.one 0 (.one 2 (.duo 1 (oL [3,4,5,6,7,8] .nil) 3 (.duo 1 (oL [4,5,6,7,8] .nil) 4 (.duo 1 (oL [5,6,7,8] .nil) 5 (.lone 1 (oL [6,7,8] .nil))))))) λu1 d1=>?_);refine⟨?_,?_⟩
    ·refine rX (H.mv (w:=u1)) rfl ⟨Fr.refl _ _,?_⟩;refine rcall zAH ?_;rintro _ N ⟨rfl,d2⟩;refine⟨Fr.mono d2.e λ_ _ _=>trivial,?_⟩;refine rcall (zAf ((V.rows.up (w':=N)).2 k p M) (hw _ (Qa _)) (V.small.2.2 _ (Qa _))) ?_;rintro v u3 ⟨⟨l',a0,_,O3⟩,d3⟩;refine⟨Fr.mono d3.e λ_ _ _=>trivial,?_⟩;have q3:=O3.shape;obtain⟨la,r,rfl⟩:=q3;refine bS (⟨la,l'.length,r⟩:SV) λb6 d O _ Q=>⟨Fr.mono O.e λ_ _ _=>trivial,?_⟩;have R:=H.mv (w:=d);refine rapp1 (u:=w) ⟨rfl,rfl⟩ (o.up (w':=d)) Q (by omega) λv5 S A h s5=>⟨Fr.mono h λ_ _ _=>trivial,?_⟩;have q:=R.fro (o.up (w':=d)) h;have U:=A.shape;obtain⟨C,E,rfl⟩:=U;refine rS q [.slice C (c++[(⟨la,l'.length,r⟩:SV)]).length E] (sv1 _ _ _) λu6 J f _=>⟨Fr.mono f λ_ _ _=>trivial,?_⟩;exact rA ⟨rfl,p,C,E,c++[(⟨la,l'.length,r⟩:SV)],J,A.frc f q,by simp [I],((Z.up (w':=d)).fro (o.up (w':=d)) h).frc f q,((W.mv (w:=d)).fro (o.up (w':=d)) h).fr f y,⟨Fr.st (lE w S) f z⟩⟩
    refine rcall zAH ?_;rintro _ N ⟨rfl,d2⟩;refine⟨Fr.mono d2.e λ_ _ _=>trivial,?_⟩;refine⟨?_,?_⟩
    ·refine rX (H.mv (w:=N)) rfl ⟨Fr.refl _ _,?_⟩;refine rcall (zAf ((V.rows.up (w':=N)).2 k p M) (hw _ (Qa _)) (V.small.2.2 _ (Qa _))) ?_;rintro v u3 ⟨⟨l',a0,_,O3⟩,d3⟩;refine⟨Fr.mono d3.e λ_ _ _=>trivial,?_⟩;have q3:=O3.shape;obtain⟨la,r,rfl⟩:=q3;refine bS (⟨la,l'.length,r⟩:SV) λb6 d O _ Q=>⟨Fr.mono O.e λ_ _ _=>trivial,?_⟩;have R:=H.mv (w:=d);refine rapp1 (u:=w) ⟨rfl,rfl⟩ (o.up (w':=d)) Q (by omega) λv5 S A h s5=>⟨Fr.mono h λ_ _ _=>trivial,?_⟩;have q:=R.fro (o.up (w':=d)) h;have U:=A.shape;obtain⟨C,E,rfl⟩:=U;refine rS q [.slice C (c++[(⟨la,l'.length,r⟩:SV)]).length E] (sv1 _ _ _) λu6 J f _=>⟨Fr.mono f λ_ _ _=>trivial,?_⟩;exact rA ⟨rfl,p,C,E,c++[(⟨la,l'.length,r⟩:SV)],J,A.frc f q,by simp [I],((Z.up (w':=d)).fro (o.up (w':=d)) h).frc f q,((W.mv (w:=d)).fro (o.up (w':=d)) h).fr f y,⟨Fr.st (lE w S) f z⟩⟩
    refine rcall (zAf ((V.rows.up (w':=N)).2 k p M) (hw _ (Qa _)) (V.small.2.2 _ (Qa _))) ?_;rintro v u3 ⟨⟨l',a0,_,O3⟩,d3⟩;refine⟨Fr.mono d3.e λ_ _ _=>trivial,?_⟩;have q3:=O3.shape;obtain⟨la,r,rfl⟩:=q3;refine⟨?_,?_⟩
    ·refine rX (H.mv (w:=u3)) rfl ⟨Fr.refl _ _,?_⟩;refine bS (⟨la,l'.length,r⟩:SV) λb6 d O _ Q=>⟨Fr.mono O.e λ_ _ _=>trivial,?_⟩;have R:=H.mv (w:=d);refine rapp1 (u:=w) ⟨rfl,rfl⟩ (o.up (w':=d)) Q (by omega) λv5 S A h s5=>⟨Fr.mono h λ_ _ _=>trivial,?_⟩;have q:=R.fro (o.up (w':=d)) h;have U:=A.shape;obtain⟨C,E,rfl⟩:=U;refine rS q [.slice C (c++[(⟨la,l'.length,r⟩:SV)]).length E] (sv1 _ _ _) λu6 J f _=>⟨Fr.mono f λ_ _ _=>trivial,?_⟩;exact rA ⟨rfl,p,C,E,c++[(⟨la,l'.length,r⟩:SV)],J,A.frc f q,by simp [I],((Z.up (w':=d)).fro (o.up (w':=d)) h).frc f q,((W.mv (w:=d)).fro (o.up (w':=d)) h).fr f y,⟨Fr.st (lE w S) f z⟩⟩
    refine bS (⟨la,l'.length,r⟩:SV) λb6 d O _ Q=>⟨Fr.mono O.e λ_ _ _=>trivial,?_⟩;refine rX (H.mv (w:=d)) rfl ⟨Fr.refl _ _,?_⟩;have R:=H.mv (w:=d);refine rapp1 (u:=w) ⟨rfl,rfl⟩ (o.up (w':=d)) Q (by omega) λv5 S A h s5=>⟨Fr.mono h λ_ _ _=>trivial,?_⟩;have q:=R.fro (o.up (w':=d)) h;have U:=A.shape;obtain⟨C,E,rfl⟩:=U;refine rS q [.slice C (c++[(⟨la,l'.length,r⟩:SV)]).length E] (sv1 _ _ _) λu6 J f _=>⟨Fr.mono f λ_ _ _=>trivial,?_⟩;exact rA ⟨rfl,p,C,E,c++[(⟨la,l'.length,r⟩:SV)],J,A.frc f q,by simp [I],((Z.up (w':=d)).fro (o.up (w':=d)) h).frc f q,((W.mv (w:=d)).fro (o.up (w':=d)) h).fr f y,⟨Fr.st (lE w S) f z⟩⟩
   ·refine rG H (⟨g.n,⟨F,t.length,G⟩,⟨K,c.length,L⟩⟩:RGr) (rE W (⟨g.n,⟨F,t.length,G⟩,⟨K,c.length,L⟩⟩:RGr) λN Z2 f2 _=>?_);have Z2:Bk N bz (enc (⟨g.n,⟨F,t.length,G⟩,⟨K,c.length,L⟩⟩:RGr)) 77:=Z2;refine rresG (B:=Z2) rfl ?_;exact⟨⟨⟨g.n,⟨F,t.length,G⟩,⟨K,c.length,L⟩⟩,t,rfl,hp,hs,Z.frc f2 W,rfl⟩,⟨Fr.st su.e f2 λi hi=>by subst hi;omega⟩⟩
  ·refine ral λbo w6 n6 J=>⟨Fr.fr n6.e,?_⟩;have a5:=n6.b;have a6:=lz w4 w5;refine rcall (zBr (V.es.up (w':=w6)) hd V.small.1) ?_;rintro v w7 ⟨⟨t,hp,hs,O7⟩,e7⟩;refine⟨Fr.fr e7.e,?_⟩;have hl:=hp.length_eq;have q7:=O7.shape;obtain⟨F,G,rfl⟩:=q7;have O7:=O7.mono (lz w w6);refine tbuild (cs:=enc (⟨g.n,⟨F,t.length,G⟩,⟨none,0,0⟩⟩:RGr)) (by rw [<-V.n];rfl) ?_;have N8:=J.mv (w:=w7);have⟨X,a3⟩:∃X,X=w7:=⟨_,rfl⟩;subst a3;refine rE N8 (⟨g.n,⟨F,t.length,G⟩,⟨none,0,0⟩⟩:RGr) λw9 N9 Y _=>⟨Y.mono λi _ hi=>by subst hi;omega,?_⟩;have N9:Bk w9 bo [.int .i64 (g.n:Int),.slice F t.length G,.slice none 0 0] 77:=N9;have y:¬bz=bo:=by omega
   have z:∀i,i=bo->w.heap.size<=i:=by omega
   have s9:Stp w w9:=⟨Fr.st (lE w X) Y z⟩;have O9:=(O7.up (w':=X)).frc Y N8;have Z9:=(Z3.mv (w:=X)).fr Y y;have B9:=(B1.mv (w:=X)).fr Y (by omega);have V9:=(V.up (w':=w9));clear N8 Z3;refine rX B9 rfl ?_
   refine cN 21 [6] 21 vs.length (λk u=>∃K L c,Bk u bo [.int .i64 (g.n:Int),.slice F t.length G,.slice K c.length L] 77/\Own w.heap.size 38 u (.slice K c.length L) c/\c.length=k/\Own w.heap.size 159 u (.slice F t.length G) t/\Bk u bz (enc zGr) 77/\Stp w u)
    ⟨none,0,([]:List SV),N9,Own.nil _ _ _,rfl,O9,Z9,s9⟩ ?_
   rintro k gf u hk ⟨K,L,c,H,o,I,Z,W,su⟩;refine ite (λhlt=>?_) (λa7=>?_)
   ·have p:k<vs.length:=by omega
    have M:k<g.ws.length:=by omega
    refine rix (V.ws.up (w':=u)) (x:=vs[k]) (by simp) λb2 o2 A2=>rload1 (A2.cell0 rfl) (dT (λ_=>True) (.one 0 (.one 2 (.duo 1 (oL [3,4,5,6,7,8] .nil) 3 (.duo 1 (oL [4,5,6,7,8] .nil) 4 (.duo 1 (oL [5,6,7,8] .nil) 5 (.lone 1 (oL [6,7,8] .nil))))))) λu1 d1=>?_);refine⟨?_,?_⟩
    ·refine rX (H.mv (w:=u1)) rfl ⟨Fr.refl _ _,?_⟩;refine rcall zAH ?_;rintro _ N ⟨rfl,d2⟩;refine⟨Fr.mono d2.e λ_ _ _=>trivial,?_⟩;refine rcall (zAf ((V.rows.up (w':=N)).2 k p M) (hw _ (Qa _)) (V.small.2.2 _ (Qa _))) ?_;rintro v u3 ⟨⟨l',a0,_,O3⟩,d3⟩;refine⟨Fr.mono d3.e λ_ _ _=>trivial,?_⟩;have q3:=O3.shape;obtain⟨la,r,rfl⟩:=q3;refine bS (⟨la,l'.length,r⟩:SV) λb6 d O _ Q=>⟨Fr.mono O.e λ_ _ _=>trivial,?_⟩;have R:=H.mv (w:=d);refine rapp1 (u:=w) ⟨rfl,rfl⟩ (o.up (w':=d)) Q (by omega) λv5 S A h s5=>⟨Fr.mono h λ_ _ _=>trivial,?_⟩;have q:=R.fro (o.up (w':=d)) h;have U:=A.shape;obtain⟨C,E,rfl⟩:=U;refine rS q [.slice C (c++[(⟨la,l'.length,r⟩:SV)]).length E] (sv1 _ _ _) λu6 J f _=>⟨Fr.mono f λ_ _ _=>trivial,?_⟩;exact rA ⟨rfl,p,C,E,c++[(⟨la,l'.length,r⟩:SV)],J,A.frc f q,by simp [I],((Z.up (w':=d)).fro (o.up (w':=d)) h).frc f q,((W.mv (w:=d)).fro (o.up (w':=d)) h).fr f y,⟨Fr.st (lE w S) f z⟩⟩
    refine rcall zAH ?_;rintro _ N ⟨rfl,d2⟩;refine⟨Fr.mono d2.e λ_ _ _=>trivial,?_⟩;refine⟨?_,?_⟩
    ·refine rX (H.mv (w:=N)) rfl ⟨Fr.refl _ _,?_⟩;refine rcall (zAf ((V.rows.up (w':=N)).2 k p M) (hw _ (Qa _)) (V.small.2.2 _ (Qa _))) ?_;rintro v u3 ⟨⟨l',a0,_,O3⟩,d3⟩;refine⟨Fr.mono d3.e λ_ _ _=>trivial,?_⟩;have q3:=O3.shape;obtain⟨la,r,rfl⟩:=q3;refine bS (⟨la,l'.length,r⟩:SV) λb6 d O _ Q=>⟨Fr.mono O.e λ_ _ _=>trivial,?_⟩;have R:=H.mv (w:=d);refine rapp1 (u:=w) ⟨rfl,rfl⟩ (o.up (w':=d)) Q (by omega) λv5 S A h s5=>⟨Fr.mono h λ_ _ _=>trivial,?_⟩;have q:=R.fro (o.up (w':=d)) h;have U:=A.shape;obtain⟨C,E,rfl⟩:=U;refine rS q [.slice C (c++[(⟨la,l'.length,r⟩:SV)]).length E] (sv1 _ _ _) λu6 J f _=>⟨Fr.mono f λ_ _ _=>trivial,?_⟩;exact rA ⟨rfl,p,C,E,c++[(⟨la,l'.length,r⟩:SV)],J,A.frc f q,by simp [I],((Z.up (w':=d)).fro (o.up (w':=d)) h).frc f q,((W.mv (w:=d)).fro (o.up (w':=d)) h).fr f y,⟨Fr.st (lE w S) f z⟩⟩
    refine rcall (zAf ((V.rows.up (w':=N)).2 k p M) (hw _ (Qa _)) (V.small.2.2 _ (Qa _))) ?_;rintro v u3 ⟨⟨l',a0,_,O3⟩,d3⟩;refine⟨Fr.mono d3.e λ_ _ _=>trivial,?_⟩;have q3:=O3.shape;obtain⟨la,r,rfl⟩:=q3;refine⟨?_,?_⟩
    ·refine rX (H.mv (w:=u3)) rfl ⟨Fr.refl _ _,?_⟩;refine bS (⟨la,l'.length,r⟩:SV) λb6 d O _ Q=>⟨Fr.mono O.e λ_ _ _=>trivial,?_⟩;have R:=H.mv (w:=d);refine rapp1 (u:=w) ⟨rfl,rfl⟩ (o.up (w':=d)) Q (by omega) λv5 S A h s5=>⟨Fr.mono h λ_ _ _=>trivial,?_⟩;have q:=R.fro (o.up (w':=d)) h;have U:=A.shape;obtain⟨C,E,rfl⟩:=U;refine rS q [.slice C (c++[(⟨la,l'.length,r⟩:SV)]).length E] (sv1 _ _ _) λu6 J f _=>⟨Fr.mono f λ_ _ _=>trivial,?_⟩;exact rA ⟨rfl,p,C,E,c++[(⟨la,l'.length,r⟩:SV)],J,A.frc f q,by simp [I],((Z.up (w':=d)).fro (o.up (w':=d)) h).frc f q,((W.mv (w:=d)).fro (o.up (w':=d)) h).fr f y,⟨Fr.st (lE w S) f z⟩⟩
    refine bS (⟨la,l'.length,r⟩:SV) λb6 d O _ Q=>⟨Fr.mono O.e λ_ _ _=>trivial,?_⟩;refine rX (H.mv (w:=d)) rfl ⟨Fr.refl _ _,?_⟩;have R:=H.mv (w:=d);refine rapp1 (u:=w) ⟨rfl,rfl⟩ (o.up (w':=d)) Q (by omega) λv5 S A h s5=>⟨Fr.mono h λ_ _ _=>trivial,?_⟩;have q:=R.fro (o.up (w':=d)) h;have U:=A.shape;obtain⟨C,E,rfl⟩:=U;refine rS q [.slice C (c++[(⟨la,l'.length,r⟩:SV)]).length E] (sv1 _ _ _) λu6 J f _=>⟨Fr.mono f λ_ _ _=>trivial,?_⟩;exact rA ⟨rfl,p,C,E,c++[(⟨la,l'.length,r⟩:SV)],J,A.frc f q,by simp [I],((Z.up (w':=d)).fro (o.up (w':=d)) h).frc f q,((W.mv (w:=d)).fro (o.up (w':=d)) h).fr f y,⟨Fr.st (lE w S) f z⟩⟩
   ·refine rG H (⟨g.n,⟨F,t.length,G⟩,⟨K,c.length,L⟩⟩:RGr) (rE W (⟨g.n,⟨F,t.length,G⟩,⟨K,c.length,L⟩⟩:RGr) λN Z2 f2 _=>?_);have Z2:Bk N bz (enc (⟨g.n,⟨F,t.length,G⟩,⟨K,c.length,L⟩⟩:RGr)) 77:=Z2;refine rresG (B:=Z2) rfl ?_;exact⟨⟨⟨g.n,⟨F,t.length,G⟩,⟨K,c.length,L⟩⟩,t,rfl,hp,hs,Z.frc f2 W,rfl⟩,⟨Fr.st su.e f2 λi hi=>by subst hi;omega⟩⟩
 ·refine ral λbo c1 n6 J=>⟨Fr.fr n6.e,?_⟩;have a5:=n6.b;have a6:=e4.e.size;refine rcall zCa ?_;rintro _ w5 ⟨rfl,e5⟩;refine⟨Fr.fr e5.e,?_⟩;have⟨w6,a1⟩:∃w6,w6=w5:=⟨_,rfl⟩;subst a1;refine rcall (zBr (V.es.up (w':=w6)) hd V.small.1) ?_;rintro v w7 ⟨⟨t,hp,hs,O7⟩,e7⟩;refine⟨Fr.fr e7.e,?_⟩;have hl:=hp.length_eq;have q7:=O7.shape;obtain⟨F,G,rfl⟩:=q7;have O7:=O7.mono (lz w w6);refine tbuild (cs:=enc (⟨g.n,⟨F,t.length,G⟩,⟨none,0,0⟩⟩:RGr)) (by rw [<-V.n];rfl) ?_;have N8:=J.mv (w:=w7);have⟨X,a3⟩:∃X,X=w7:=⟨_,rfl⟩;subst a3;refine rE N8 (⟨g.n,⟨F,t.length,G⟩,⟨none,0,0⟩⟩:RGr) λw9 N9 Y _=>⟨Y.mono λi _ hi=>by subst hi;omega,?_⟩;have N9:Bk w9 bo [.int .i64 (g.n:Int),.slice F t.length G,.slice none 0 0] 77:=N9;have y:¬bz=bo:=by omega
  have z:∀i,i=bo->w.heap.size<=i:=by omega
  have s9:Stp w w9:=⟨Fr.st (lE w X) Y z⟩;have O9:=(O7.up (w':=X)).frc Y N8;have Z9:=(Z3.mv (w:=X)).fr Y y;have B9:=(B1.mv (w:=X)).fr Y (by omega);have V9:=(V.up (w':=w9));clear N8 Z3;refine rX B9 rfl ?_
  refine cN 21 [6] 21 vs.length (λk u=>∃K L c,Bk u bo [.int .i64 (g.n:Int),.slice F t.length G,.slice K c.length L] 77/\Own w.heap.size 38 u (.slice K c.length L) c/\c.length=k/\Own w.heap.size 159 u (.slice F t.length G) t/\Bk u bz (enc zGr) 77/\Stp w u)
   ⟨none,0,([]:List SV),N9,Own.nil _ _ _,rfl,O9,Z9,s9⟩ ?_
  rintro k gf u hk ⟨K,L,c,H,o,I,Z,W,su⟩;refine ite (λhlt=>?_) (λa7=>?_)
  ·have p:k<vs.length:=by omega
   have M:k<g.ws.length:=by omega
   refine rix (V.ws.up (w':=u)) (x:=vs[k]) (by simp) λb2 o2 A2=>rload1 (A2.cell0 rfl) (dT (λ_=>True) (.one 0 (.one 2 (.duo 1 (oL [3,4,5,6,7,8] .nil) 3 (.duo 1 (oL [4,5,6,7,8] .nil) 4 (.duo 1 (oL [5,6,7,8] .nil) 5 (.lone 1 (oL [6,7,8] .nil))))))) λu1 d1=>?_);refine⟨?_,?_⟩
   ·refine rX (H.mv (w:=u1)) rfl ⟨Fr.refl _ _,?_⟩;refine rcall zAH ?_;rintro _ N ⟨rfl,d2⟩;refine⟨Fr.mono d2.e λ_ _ _=>trivial,?_⟩;refine rcall (zAf ((V.rows.up (w':=N)).2 k p M) (hw _ (Qa _)) (V.small.2.2 _ (Qa _))) ?_;rintro v u3 ⟨⟨l',a0,_,O3⟩,d3⟩;refine⟨Fr.mono d3.e λ_ _ _=>trivial,?_⟩;have q3:=O3.shape;obtain⟨la,r,rfl⟩:=q3;refine bS (⟨la,l'.length,r⟩:SV) λb6 d O _ Q=>⟨Fr.mono O.e λ_ _ _=>trivial,?_⟩;have R:=H.mv (w:=d);refine rapp1 (u:=w) ⟨rfl,rfl⟩ (o.up (w':=d)) Q (by omega) λv5 S A h s5=>⟨Fr.mono h λ_ _ _=>trivial,?_⟩;have q:=R.fro (o.up (w':=d)) h;have U:=A.shape;obtain⟨C,E,rfl⟩:=U;refine rS q [.slice C (c++[(⟨la,l'.length,r⟩:SV)]).length E] (sv1 _ _ _) λu6 J f _=>⟨Fr.mono f λ_ _ _=>trivial,?_⟩;exact rA ⟨rfl,p,C,E,c++[(⟨la,l'.length,r⟩:SV)],J,A.frc f q,by simp [I],((Z.up (w':=d)).fro (o.up (w':=d)) h).frc f q,((W.mv (w:=d)).fro (o.up (w':=d)) h).fr f y,⟨Fr.st (lE w S) f z⟩⟩
   refine rcall zAH ?_;rintro _ N ⟨rfl,d2⟩;refine⟨Fr.mono d2.e λ_ _ _=>trivial,?_⟩;refine⟨?_,?_⟩
   ·refine rX (H.mv (w:=N)) rfl ⟨Fr.refl _ _,?_⟩;refine rcall (zAf ((V.rows.up (w':=N)).2 k p M) (hw _ (Qa _)) (V.small.2.2 _ (Qa _))) ?_;rintro v u3 ⟨⟨l',a0,_,O3⟩,d3⟩;refine⟨Fr.mono d3.e λ_ _ _=>trivial,?_⟩;have q3:=O3.shape;obtain⟨la,r,rfl⟩:=q3;refine bS (⟨la,l'.length,r⟩:SV) λb6 d O _ Q=>⟨Fr.mono O.e λ_ _ _=>trivial,?_⟩;have R:=H.mv (w:=d);refine rapp1 (u:=w) ⟨rfl,rfl⟩ (o.up (w':=d)) Q (by omega) λv5 S A h s5=>⟨Fr.mono h λ_ _ _=>trivial,?_⟩;have q:=R.fro (o.up (w':=d)) h;have U:=A.shape;obtain⟨C,E,rfl⟩:=U;refine rS q [.slice C (c++[(⟨la,l'.length,r⟩:SV)]).length E] (sv1 _ _ _) λu6 J f _=>⟨Fr.mono f λ_ _ _=>trivial,?_⟩;exact rA ⟨rfl,p,C,E,c++[(⟨la,l'.length,r⟩:SV)],J,A.frc f q,by simp [I],((Z.up (w':=d)).fro (o.up (w':=d)) h).frc f q,((W.mv (w:=d)).fro (o.up (w':=d)) h).fr f y,⟨Fr.st (lE w S) f z⟩⟩
   refine rcall (zAf ((V.rows.up (w':=N)).2 k p M) (hw _ (Qa _)) (V.small.2.2 _ (Qa _))) ?_;rintro v u3 ⟨⟨l',a0,_,O3⟩,d3⟩;refine⟨Fr.mono d3.e λ_ _ _=>trivial,?_⟩;have q3:=O3.shape;obtain⟨la,r,rfl⟩:=q3;refine⟨?_,?_⟩
   ·refine rX (H.mv (w:=u3)) rfl ⟨Fr.refl _ _,?_⟩;refine bS (⟨la,l'.length,r⟩:SV) λb6 d O _ Q=>⟨Fr.mono O.e λ_ _ _=>trivial,?_⟩;have R:=H.mv (w:=d);refine rapp1 (u:=w) ⟨rfl,rfl⟩ (o.up (w':=d)) Q (by omega) λv5 S A h s5=>⟨Fr.mono h λ_ _ _=>trivial,?_⟩;have q:=R.fro (o.up (w':=d)) h;have U:=A.shape;obtain⟨C,E,rfl⟩:=U;refine rS q [.slice C (c++[(⟨la,l'.length,r⟩:SV)]).length E] (sv1 _ _ _) λu6 J f _=>⟨Fr.mono f λ_ _ _=>trivial,?_⟩;exact rA ⟨rfl,p,C,E,c++[(⟨la,l'.length,r⟩:SV)],J,A.frc f q,by simp [I],((Z.up (w':=d)).fro (o.up (w':=d)) h).frc f q,((W.mv (w:=d)).fro (o.up (w':=d)) h).fr f y,⟨Fr.st (lE w S) f z⟩⟩
   refine bS (⟨la,l'.length,r⟩:SV) λb6 d O _ Q=>⟨Fr.mono O.e λ_ _ _=>trivial,?_⟩;refine rX (H.mv (w:=d)) rfl ⟨Fr.refl _ _,?_⟩;have R:=H.mv (w:=d);refine rapp1 (u:=w) ⟨rfl,rfl⟩ (o.up (w':=d)) Q (by omega) λv5 S A h s5=>⟨Fr.mono h λ_ _ _=>trivial,?_⟩;have q:=R.fro (o.up (w':=d)) h;have U:=A.shape;obtain⟨C,E,rfl⟩:=U;refine rS q [.slice C (c++[(⟨la,l'.length,r⟩:SV)]).length E] (sv1 _ _ _) λu6 J f _=>⟨Fr.mono f λ_ _ _=>trivial,?_⟩;exact rA ⟨rfl,p,C,E,c++[(⟨la,l'.length,r⟩:SV)],J,A.frc f q,by simp [I],((Z.up (w':=d)).fro (o.up (w':=d)) h).frc f q,((W.mv (w:=d)).fro (o.up (w':=d)) h).fr f y,⟨Fr.st (lE w S) f z⟩⟩
  ·refine rG H (⟨g.n,⟨F,t.length,G⟩,⟨K,c.length,L⟩⟩:RGr) (rE W (⟨g.n,⟨F,t.length,G⟩,⟨K,c.length,L⟩⟩:RGr) λN Z2 f2 _=>?_);have Z2:Bk N bz (enc (⟨g.n,⟨F,t.length,G⟩,⟨K,c.length,L⟩⟩:RGr)) 77:=Z2;refine rresG (B:=Z2) rfl ?_;exact⟨⟨⟨g.n,⟨F,t.length,G⟩,⟨K,c.length,L⟩⟩,t,rfl,hp,hs,Z.frc f2 W,rfl⟩,⟨Fr.st su.e f2 λi hi=>by subst hi;omega⟩⟩
def trnE (e:EdN):EdN:=⟨e.t,e.f⟩
theorem zQF{a b:EdN}(h:trnE a=trnE b):a=b:=by cases a;cases b;simp [trnE] at h;simp [h.1,h.2]
def trnG (g:GrD):GrD:=⟨g.n,g.es.map trnE,g.ws⟩
theorem zQE(h:GrChk g):GrChk (trnG g):=⟨h.n1,h.n2,by simpa [trnG] using h.ne,h.nw,λe c=>by
 have d:=Qq.1 c;obtain⟨b,h0,rfl⟩:=d;exact⟨(h.ed b h0).2,(h.ed b h0).1⟩,h.word⟩
theorem zOE{l:List EdN}(h:l.Nodup):(l.map trnE).Nodup:=by
 rw [Qx] at h ⊢;rw [QY];exact h.imp λb e=>b (zQF e)
theorem zPC{l:List EdN}(h:k<l.length):((l.take k).map trnE++l.drop k).set k (trnE l[k])=(l.take (k+1)).map trnE++l.drop (k+1):=by
 have b:((l.take k).map trnE).length=k:=by rw [Qr,Qm];omega
 rw [List.set_append_right _ _ (by omega),b,JN,JS h,List.set_cons_zero,take_add h,QB];simp
theorem zHG{x:RGr}{vs:List SV}{w:World}(V:GrV w x g vs)(L:GrChk g)(hd:g.es.Nodup)(hw:∀l∈g.ws,l.Nodup):Sp PP 93 #[agg x] w (NorT (trnG g) w):=by
 have a0:=L.ne;refine eN ?_;refine rbx λbx w1 n1 z=>ral λp M n2 N=>rX z rfl (rcall (zER (V.es.up (w':=M)) V.small.1) ?_);rintro v A ⟨q,e3⟩;have a1:=n1.b;have a4:=n1.s;have a5:=n2.b;have a6:=n2.s;have o:Bk A p (enc zGr) 77:=N.mv;have Q:Bk A bx (enc x) 77:=z.mv;clear N z;have q:=q.mono (lz w M);have C:=q.shape;obtain⟨a3,c3,rfl⟩:=C;refine rS Q [.slice a3 g.es.length c3] (sv1 _ _ _) λR r E _=>?_;have r:Bk R bx [.int .i64 x.n,.slice a3 g.es.length c3,.slice x.ws.a x.ws.n x.ws.c] 77:=r;have F:¬p=bx:=by omega
 have G:∀i,i=bx->w.heap.size<=i:=by omega
 have s4:Stp w R:=⟨Fr.st (lE w A) E G⟩;have O4:=q.frc E Q;have Z4:=o.fr E F;refine rX r rfl ?_
 refine cN 13 [4,5] 13 g.es.length (λk u=>Own w.heap.size 159 u (.slice a3 g.es.length c3) ((g.es.take k).map trnE++g.es.drop k)/\Bk u bx [.int .i64 x.n,.slice a3 g.es.length c3,.slice x.ws.a x.ws.n x.ws.c] 77/\Bk u p (enc zGr) 77/\Stp w u)
  ⟨by simpa using O4,r,Z4,s4⟩ ?_
 rintro k gf u hk ⟨O,B,Z,su⟩;have a7:((g.es.take k).map trnE++g.es.drop k).length=g.es.length:=by simp;omega
 refine ite (λhlt=>?_) (λa8=>?_)
 ·have h:k<g.es.length:=by omega
  have f:((g.es.take k).map trnE++g.es.drop k)[k]? = some g.es[k]:=by
   have H:((g.es.take k).map trnE).length=k:=by rw [Qr,Qm];omega
   rw [Xk (by omega),H,JN,Vz];exact Qd h
  refine rixO rfl O f λg1 a9 _ A1=>rloadA A1 rfl (ral λb3 S n3 z3=>rE z3 (g.es[k]) λd t I _=>?_);have t:Bk d b3 (enc g.es[k]) 159:=t;have d4:Stp u d:=n3.st I;refine rX (B.mv (w:=d)) rfl (rX t rfl (rX t rfl ?_));refine rbuild (cs:=enc (trnE g.es[k])) rfl (rixO rfl (O.up (w':=d)) f λg2 J _ A2=>rstO (u:=w) rfl (trnE g.es[k]) (O.up (w':=d)) J (by omega) rfl λu5 U W s5 _=>?_);rw [zPC h] at U;exact rA ⟨rfl,h,U,(B.mv (w:=d)).fro (O.up (w':=d)) W,(Z.mv (w:=d)).fro (O.up (w':=d)) W,stp⟩
 ·have C:k=g.es.length:=by omega
  obtain rfl:=C;rw [Qg,Yh,QE] at O;have V':GrV u ⟨x.n,⟨a3,g.es.length,c3⟩,x.ws⟩ (trnG g) vs:=⟨V.n,O.sl,V.ws.up,V.rows.up,⟨by simpa [trnG] using V.small.1,V.small.2.1,V.small.2.2⟩,V.words⟩;refine rG B (⟨x.n,⟨a3,g.es.length,c3⟩,x.ws⟩:RGr) (rcall (zHF V' (zQE L) (zOE hd) hw) ?_);rintro _ X ⟨⟨y,es,rfl,hp,hs,hS,K⟩,e2⟩;have Y:=Z.mv (w:=X);refine rE Y y λS o f3 _=>?_;have o:Bk S p (enc y) 77:=o;refine rresG (B:=o) rfl ?_;exact⟨⟨y,es,rfl,hp,hs,(hS.frc f3 Y).mono su.e.size,K⟩,⟨Fr.st (lE w X) f3 λi hi=>by subst hi;omega⟩⟩
def cLt (l:List EdN) (v:Nat):Nat:=(l.filter λe=>decide (e.f<v)).length
def cAt (l:List EdN) (v:Nat):Nat:=(l.filter λe=>decide (e.f+1=v)).length
def offL (n:Nat) (l:List EdN):List Int:=(List.range (n+1)).map λv=>(cLt l v:Int)
def toL (l:List EdN):List Int:=l.map λe=>(e.t:Int)
theorem zOP(l:List EdN)(e:EdN)(v:Nat):cAt (l++[e]) v=cAt l v+if e.f+1=v then 1 else 0:=by
 unfold cAt;rw [QV,Qb];by_cases h:e.f+1=v <;> simp [h]
theorem zC3(l:List EdN)(v:Nat):cLt l (v+1)=cLt l v+cAt l (v+1):=by
 unfold cLt cAt
 induction l with
 |nil=>rfl
 |cons e r h =>
  simp only [Vj];by_cases d:e.f<v
  ·have b:e.f<v+1:=by omega
   have c:¬e.f+1=v+1:=by omega
   simp only [d,b,c,decide_true,decide_false,if_true,QA];simp only [Jt,if_false];omega
  ·by_cases o:e.f=v
   ·have b:e.f<v+1:=by omega
    have c:e.f+1=v+1:=by omega
    simp only [d,b,c,decide_true,decide_false,if_true,QA];simp only [Jt,if_false];omega
   ·have b:¬e.f<v+1:=by omega
    have c:¬e.f+1=v+1:=by omega
    simp only [d,b,c,decide_false,Jt,if_false];omega
theorem zB8(l:List EdN):cLt l 0=0:=by simp [cLt]
theorem zOQ(l:List EdN):cAt l 0=0:=by
 unfold cAt;rw [JA.2 (by simp)];rfl
theorem cLt_le(l:List EdN)(v:Nat):cLt l v<=l.length:=Qv _ _
theorem cAt_le(l:List EdN)(v:Nat):cAt l v<=l.length:=Qv _ _
theorem zAT{α:Type}{f:Nat->α}(h:k<n):((List.range n).map f)[k]? = some (f k):=by simp [h]
theorem zCx{α:Type}{f:Nat->α}{y:α}(h:k<n):((List.range n).map f).set k y=(List.range n).map λj=>if j=k then y else f j:=by
 apply Vl;intro i;rw [Vw];by_cases hi:k=i
 ·subst hi;simp [h]
 ·simp only [hi,if_false,QK];by_cases b:i<n
  ·simp [b,Jq hi]
  ·simp [b]
theorem zFL{c:Nat}{l:List EdN}{w:World}(h:SlF w (.slice a m c) l)(hn:n<=200)(hl:l.length<=2000)(hf:∀e∈l,e.f<n):
  Sp PP 94 #[.int .i64 (n:Int),.slice a m c] w λv w'=>(∃vo vt,v=.tuple #[vo,vt]/\Own w.heap.size 3 w' vo (offL n l)/\Own w.heap.size 3 w' vt (toL l))/\Stp w w':=by
 have E:=h.len;obtain rfl:=E;refine eN ?_;refine rarE (y:=((n+1:Nat):Int)) (by omega) (by omega) (rmk (0:Int) rfl rfl (by omega) λgo w1 O1 s1 a6=>?_);have J:=O1.lt (by intro h0;have:=congrArg List.length h0;simp at this);obtain⟨gg,V,_,W⟩:=J;cases V
 refine cO 14 [7] 5 14 l.length (λk v u=>Own w.heap.size 3 u (.slice (some ⟨go,0,none⟩) (n+1) (n+1)) ((List.range (n+1)).map λj=>(cAt (l.take k) j:Int))/\Own w.heap.size 3 u v (toL (l.take k))/\(∀g,Value.blk v=some g->g≠go)/\go<u.heap.size/\Stp w u)
  ⟨by rw [show ((List.range (n+1)).map λj=>(cAt (l.take 0) j:Int))=List.replicate (n+1) 0 from by rw [List.eq_replicate_iff];refine⟨by simp,λb r=>?_⟩;obtain⟨j,_,rfl⟩:=Qq.1 r;rfl];exact O1,Own.nil _ _ _,(λg H=>by cases H),W,stp⟩ ?_
 rintro k v gf u hk ⟨O,X,o,a7,su⟩;refine ite (λhlt=>?_) (λY=>?_)
 ·have z:k<l.length:=by omega
  have a8:=hf _ (Qa z);have Z:=cAt_le (l.take k) (l[k].f+1);rw [Qm] at Z;refine rix (h.up (w':=u)) (x:=l[k]) (by simp) λb2 o2 A2=>rloadA A2 rfl (ral λb3 S n3 z3=>rE z3 (l[k]) λF U a0 _=>?_);have U:Bk F b3 (enc l[k]) 159:=U;have d4:Stp u F:=n3.st a0;refine rX U rfl (rarE (y:=((l[k].f+1:Nat):Int)) (by omega) (by omega) (rixO rfl (O.up (w':=F)) (i:=l[k].f+1) (x:=(cAt (l.take k) (l[k].f+1):Int)) (zAT (by omega)) λg1 A _ A1=>rload1 (A1.cell0 rfl) (rarE (y:=((cAt (l.take k) (l[k].f+1)+1:Nat):Int)) (by omega) (by omega) (rixO rfl (O.up (w':=F)) (i:=l[k].f+1) (x:=(cAt (l.take k) (l[k].f+1):Int)) (zAT (by omega)) λg2 a1 _ A2=>rstO (u:=w) rfl ((cAt (l.take k) (l[k].f+1)+1:Nat):Int) (O.up (w':=F)) a1 (by simp;omega) rfl λu5 q C s5 _=>?_))));have X5:=U.fro (O.up (w':=F)) C;have K:=(X.up (w':=F)).fr C (λb _ r hd=>o b r (QL hd.2.1).symm);rw [zCx (by omega)] at q;refine rX X5 rfl (bS (l[k].t:Int) λb6 L e6 _ S6=>?_);have a3:w.heap.size<=L.heap.size:=Le.size;refine rappD ⟨rfl,rfl⟩ (K.up (w':=L)) S6 (by simp) a3 (by simp [toL];omega) λv7 u7 O7 f7 a4=>?_;have s7:Stw w L u7:=zAI f7;have zz:u.heap.size<=L.heap.size:=by have h1:=d4.e.size;have h2:=C.size;have h3:=e6.e.size;omega
  have M:=(q.up (w':=L)).fr f7 (λb _ r hd=>o b hd.2.1 (QL r).symm);have e1:toL (l.take (k+1))=toL (l.take k)++[(l[k].t:Int)]:=by rw [take_add z];unfold toL;rw [QB];rfl
  rw [<-e1] at O7
  have N:((List.range (n+1)).map λj=>if j=l[k].f+1 then ((cAt (l.take k) (l[k].f+1)+1:Nat):Int) else (cAt (l.take k) j:Int))=(List.range (n+1)).map λj=>(cAt (l.take (k+1)) j:Int):=by
   apply Ja;intro j _;rw [take_add z,zOP];by_cases d:l[k].f+1=j
   ·subst d;simp
   ·simp [d,Jq d]
  rw [N] at M;have z7:=f7.size
  have Q:∀g,Value.blk v7=some g->g≠go:=λg H=>by
   rcases a4 with h7|h7
   ·rw [h7] at H;exact o g H
   ·rw [h7] at H;cases H;omega
  exact rA ⟨rfl,z,M,O7,Q,by omega,stp⟩
 have E:k=l.length:=by omega
 obtain rfl:=E;rw [Qg] at O X;refine cN 33 [8] 33 n (λk u'=>Own w.heap.size 3 u' (.slice (some ⟨go,0,none⟩) (n+1) (n+1)) ((List.range (n+1)).map λj=>if j<=k then (cLt l j:Int) else (cAt l j:Int))/\Own w.heap.size 3 u' v (toL l)/\Stp w u') ⟨?_,X,su⟩ ?_
 ·have e0:((List.range (n+1)).map λj=>if j<=0 then (cLt l j:Int) else (cAt l j:Int))=(List.range (n+1)).map λj=>(cAt l j:Int):=by
   apply Ja;intro j _;by_cases d:j<=0
   ·have E:j=0:=by omega
    obtain rfl:=E;simp [zB8,zOQ]
   ·simp [d]
  rw [e0];exact O
 rintro k a9 u2 b0 ⟨O2,T2,s2⟩;refine ite (λhlt=>?_) (λY=>?_)
 ·have R:k<n:=by omega
  have h1:=cLt_le l k;have h2:=cAt_le l (k+1);have h3:=zC3 l k;have h4:=cLt_le l (k+1);have A:((List.range (n+1)).map λj=>if j<=k then (cLt l j:Int) else (cAt l j:Int))[k+1]? = some (cAt l (k+1):Int):=by rw [zAT (by omega),if_neg (by omega)]
  have a5:((List.range (n+1)).map λj=>if j<=k then (cLt l j:Int) else (cAt l j:Int))[k]? = some (cLt l k:Int):=by rw [zAT (by omega),if_pos (by omega)]
  refine dT (λ_=>True) (oL [0,1,2,3,5,6,7] (.duo 4 (.lone 8 (oL [9,10,11] .nil)) 8 (.lone 4 (oL [9,10,11] .nil)))) λS e3=>?_;have I:=O2.up (w':=S);refine rarE (y:=((k+1:Nat):Int)) (by omega) (by omega) (tixO rfl I A λg3 b1 _ A3=>tixO rfl I a5 λg4 b4 _ A4=>?_);refine⟨?_,?_⟩
  ·refine rload1 (A3.cell0 rfl) ⟨Fr.refl _ _,?_⟩;refine rload1 (A4.cell0 rfl) ⟨Fr.refl _ _,?_⟩;refine rarE (y:=((cLt l (k+1):Nat):Int)) (by omega) (by omega) (tixO rfl I A λg5 G _ A5=>rstO (u:=w) rfl (cLt l (k+1):Int) I G (by simp;omega) rfl λu5 q C s5 _=>⟨Fr.mono C λ_ _ _=>trivial,?_⟩);have K:=(T2.up (w':=S)).fr C (λb _ r hd=>o b r (QL hd.2.1).symm);rw [zCx (by omega)] at q
   have N:((List.range (n+1)).map λj=>if j=k+1 then (cLt l (k+1):Int) else if j<=k then (cLt l j:Int) else (cAt l j:Int))=(List.range (n+1)).map λj=>if j<=k+1 then (cLt l j:Int) else (cAt l j:Int):=by
    apply Ja;intro j _;by_cases d:j=k+1
    ·subst d;simp
    ·by_cases p:j<=k
     ·rw [if_neg d,if_pos p,if_pos (by omega)]
     ·rw [if_neg d,if_neg p,if_neg (by omega)]
   rw [N] at q;exact rA ⟨rfl,R,q,K,stp⟩
  ·refine rload1 (A4.cell0 rfl) ⟨Fr.refl _ _,?_⟩;refine rload1 (A3.cell0 rfl) ⟨Fr.refl _ _,?_⟩;refine rarE (y:=((cLt l (k+1):Nat):Int)) (by omega) (by omega) (tixO rfl I A λg5 G _ A5=>rstO (u:=w) rfl (cLt l (k+1):Int) I G (by simp;omega) rfl λu5 q C s5 _=>⟨Fr.mono C λ_ _ _=>trivial,?_⟩);have K:=(T2.up (w':=S)).fr C (λb _ r hd=>o b r (QL hd.2.1).symm);rw [zCx (by omega)] at q
   have N:((List.range (n+1)).map λj=>if j=k+1 then (cLt l (k+1):Int) else if j<=k then (cLt l j:Int) else (cAt l j:Int))=(List.range (n+1)).map λj=>if j<=k+1 then (cLt l j:Int) else (cAt l j:Int):=by
    apply Ja;intro j _;by_cases d:j=k+1
    ·subst d;simp
    ·by_cases p:j<=k
     ·rw [if_neg d,if_pos p,if_pos (by omega)]
     ·rw [if_neg d,if_neg p,if_neg (by omega)]
   rw [N] at q;exact rA ⟨rfl,R,q,K,stp⟩
 ·have E:k=n:=by omega
  obtain rfl:=E;refine⟨⟨_,_,rfl,?_,T2⟩,stp⟩
  have e3:offL k l=(List.range (k+1)).map λj=>if j<=k then (cLt l j:Int) else (cAt l j:Int):=by
   apply Ja;intro j d;rw [if_pos (by have:=Q0.1 d;omega)]
  rw [e3];exact O2
structure RRow where
 off:SV
 to:SV
 rof:SV
 rev:SV
instance:Enc RRow:=⟨4,λx=>[.slice x.off.a x.off.n x.off.c,.slice x.to.a x.to.n x.to.c,.slice x.rof.a x.rof.n x.rof.c,.slice x.rev.a x.rev.n x.rev.c],λ_=>rfl,by intro x u hu;simp at hu;rcases hu with rfl|rfl|rfl|rfl <;> rfl,by decide⟩
def RevOf (g:GrD) (r:List EdN):Prop:=r.Perm (g.es.map trnE)/\r.Pairwise ltE
structure RowO (B:Nat) (w:World) (x:RRow) (g:GrD) (r:List EdN):Prop where
 rev':RevOf g r
 off:Own B 3 w (.slice x.off.a x.off.n x.off.c) (offL g.n g.es)
 to:Own B 3 w (.slice x.to.a x.to.n x.to.c) (toL g.es)
 rof:Own B 3 w (.slice x.rof.a x.rof.n x.rof.c) (offL g.n r)
 rev:Own B 3 w (.slice x.rev.a x.rev.n x.rev.c) (toL r)
theorem zOa{l:List EdN}(h:l.Pairwise ltE):l.Nodup:=by
 rw [Qx];exact h.imp λ{a b} h e=>by subst e;unfold ltE at h;omega
theorem zOb{l:List ByteArray}(h:l.Pairwise ltW):l.Nodup:=by
 rw [Qx];exact h.imp λ{a b} h e=>by subst e;exact List.lt_irrefl _ h
theorem zLa{x:RGr}{vs:List SV}{w:World}(V:GrV w x g vs)(R:GrIs g):Sp PP 43 #[agg x] w λv w'=>(∃y r,v=.tuple #[agg (y:RRow),.int .i64 0]/\RowO w.heap.size w' y g r)/\Stp w w':=by
 have K:=R.chk;have L:=K.n2;have a0:=K.ne;refine eN ?_;refine rbx λbx w1 n1 J=>ral λbz w2 n2 z2=>rG J x (rcall (zDJ (V.up (w':=w2))) ?_);rintro _ w3 ⟨⟨rfl,_⟩|⟨rfl,a1⟩,e3⟩
 case' inr=>exact absurd R a1
 refine rG J x (rcall (zHG (V.up (w':=w3)) K (zOa R.er) (λl hl=>zOb (R.wr l hl))) ?_);rintro _ S ⟨⟨y,r,rfl,hp,hs,O4,b5⟩,e4⟩;have b6:=n1.b;have b7:=n1.s;have b8:=n2.b;have b9:=n2.s;have c0:=lz w2 S;have Z4:Bk S bz (enc (⟨⟨none,0,0⟩,⟨none,0,0⟩,⟨none,0,0⟩,⟨none,0,0⟩⟩:RRow)) 82:=z2.mv;have O4:=O4.mono (lz w w3);clear z2;refine ral λbt w5 n5 z5=>rE z5 y λw6 U f6 _=>?_;have U:Bk w6 bt (enc y) 77:=U;have s6:Stp S w6:=n5.st f6;clear z5;refine ral λW X n7 z7=>?_;have R7:Bk X W (enc (⟨⟨none,0,0⟩,⟨none,0,0⟩,⟨none,0,0⟩,⟨none,0,0⟩⟩:RRow)) 82:=z7;clear z7;have c1:=n7.b;have c2:=lz S w6;have c3:=f6.size;have c4:=n5.s;have c5:=n5.b;refine rX J rfl (rX J rfl ?_);have L1:=zFL (n:=g.n) (l:=g.es) (w:=X) V.es.up L a0 (λe he=>(K.ed e he).1);rw [<-V.n] at L1;refine rcall L1 ?_;rintro _ E ⟨⟨vo,vt,rfl,Y,Z⟩,e8⟩;have A:∀i,i=W->w.heap.size<=i:=by omega
 have Y:=Y.mono (lz w X);have Z:=Z.mono (lz w X);have C:=Y.shape;obtain⟨oa,oc,rfl⟩:=C;have C:=Z.shape;obtain⟨ta,tc,rfl⟩:=C;refine rS (R7.mv (w:=E)) [.slice oa (offL g.n g.es).length oc] (sv1 _ _ _) λw9 M F _=>?_;have s9:Stp w w9:=⟨Fr.st (lE w E) F A⟩;have k9:=R7.mv (w:=E);have a3:=Y.frc F k9;have a4:=Z.frc F k9;have O9:=(O4.up (w':=E)).frc F k9;have T9:=(U.mv (w:=E)).fr F (by omega);have Z9:=(Z4.mv (w:=E)).fr F (by omega);have B9:=(J.mv (w:=E)).fr F (by omega);refine rS M [.slice ta (toL g.es).length tc] (sv1 _ _ _) λh G c _=>?_;have G:Bk h W [.slice oa (offL g.n g.es).length oc,.slice ta (toL g.es).length tc,.slice none 0 0,.slice none 0 0] 82:=G;have c6:Stp w h:=⟨Fr.st s9.e c A⟩;have N:=a3.frc c M;have O:=a4.frc c M;have a5:=O9.frc c M;have a6:=T9.fr c (by omega);have a7:=Z9.fr c (by omega);have a8:=B9.fr c (by omega);clear M J U Z4 R7 B9 T9 Z9;refine rX a8 rfl (rX a6 rfl ?_);have a9:r.length<=2000:=by have:=hp.length_eq;simp [trnG] at this;omega
 have L2:=zFL (n:=g.n) (l:=r) (w:=h) a5.sl L a9 (λe he=>by
  have:=hp.mem_iff.1 he;have C:=Qq.1 this;obtain⟨e0,h0,rfl⟩:=C;exact(K.ed e0 h0).2)
 rw [<-V.n] at L2;refine rcall L2 ?_;rintro _ o ⟨⟨vp,vq,rfl,Op,Oq⟩,c7⟩;have Op:=Op.mono (lz w h);have Oq:=Oq.mono (lz w h);have C:=Op.shape;obtain⟨pa,pc,rfl⟩:=C;have C:=Oq.shape;obtain⟨qa,qc,rfl⟩:=C;have p:=G.mv (w:=o);refine rS p [.slice pa (offL g.n r).length pc] (sv1 _ _ _) λb0 q d _=>?_;have b1:Stp w b0:=⟨Fr.st (lE w o) d A⟩;have b2:=(a7.mv (w:=o)).fr d (by omega);refine rS q [.slice qa (toL r).length qc] (sv1 _ _ _) λQ H f _=>?_;have b3:Stp w Q:=⟨Fr.st b1.e f A⟩;have t:=b2.fr f (by omega);have H:Bk Q W (enc (⟨⟨oa,(offL g.n g.es).length,oc⟩,⟨ta,(toL g.es).length,tc⟩,⟨pa,(offL g.n r).length,pc⟩,⟨qa,(toL r).length,qc⟩⟩:RRow)) 82:=H;refine rG H (⟨⟨oa,(offL g.n g.es).length,oc⟩,⟨ta,(toL g.es).length,tc⟩,⟨pa,(offL g.n r).length,pc⟩,⟨qa,(toL r).length,qc⟩⟩:RRow) (rE t (⟨⟨oa,(offL g.n g.es).length,oc⟩,⟨ta,(toL g.es).length,tc⟩,⟨pa,(offL g.n r).length,pc⟩,⟨qa,(toL r).length,qc⟩⟩:RRow) λb4 I z _=>?_);have I:Bk b4 bz (enc (⟨⟨oa,(offL g.n g.es).length,oc⟩,⟨ta,(toL g.es).length,tc⟩,⟨pa,(offL g.n r).length,pc⟩,⟨qa,(toL r).length,qc⟩⟩:RRow)) 82:=I;refine rresG (B:=I) rfl ?_;refine⟨⟨⟨⟨oa,(offL g.n g.es).length,oc⟩,⟨ta,(toL g.es).length,tc⟩,⟨pa,(offL g.n r).length,pc⟩,⟨qa,(toL r).length,qc⟩⟩,r,rfl,⟨hp,hs⟩,?_,?_,?_,?_⟩,⟨Fr.st b3.e z λi hi=>by omega⟩⟩
 ·exact(((N.up (w':=o)).frc d p).frc f q).frc z t
 ·exact(((O.up (w':=o)).frc d p).frc f q).frc z t
 ·exact((Op.frc d p).frc f q).frc z t
 ·exact((Oq.frc d p).frc f q).frc z t
open Go
structure RowI (n:Nat) (l:List EdN):Prop where
 n1:1<=n
 n2:n<=200
 lt:∀e∈l,e.f<n/\e.t<n
 ris:l.Pairwise ltE
 len:l.length<=2000
def atV (l:List EdN) (v:Nat):List EdN:=l.filter λe=>decide (e.f=v)
def rowN (l:List EdN) (v:Nat):List Nat:=(atV l v).map (·.t)
theorem zIe(l:List EdN)(v:Nat):(atV l v).length=cAt l (v+1):=by
 unfold atV cAt;congr 1;apply XC;intro e _;simp
theorem zHo:∀{l:List EdN},l.Pairwise ltE->∀v,l.drop (cLt l v)=atV l v++l.filter (λe=>decide (v<e.f))/\l.take (cLt l v)=l.filter λe=>decide (e.f<v)
 |[],_,v=>by simp [atV,cLt]
 |e::r,h,v=>by
  rw [QM] at h;have o:=zHo h.2 v;have c:∀x∈r,e.f<=x.f:=λx b=>by have:=h.1 x b;unfold ltE at this;omega
  by_cases p:e.f<v
  ·have q:cLt (e::r) v=cLt r v+1:=by unfold cLt;rw [Vj,if_pos (by simpa using p),QA]
   rw [q];have y:atV (e::r) v=atV r v:=by unfold atV;rw [Vj,if_neg (by simp;omega)]
   rw [y,Vj,if_neg (by simp;omega),Vj,if_pos (by simpa using p)];exact⟨by simpa using o.1,by simpa using o.2⟩
  ·have q:cLt (e::r) v=0:=by
    unfold cLt;rw [XB,JA];intro x b;have d:=Ql.1 b;rcases d with rfl|b
    ·simpa using p
    ·have:=c x b;simp;omega
   have z:cLt r v=0:=by
    unfold cLt;rw [XB,JA];intro x b;have:=c x b;simp;omega
   rw [z,Jf] at o;rw [q,Jf,Xa];refine⟨?_,?_⟩
   ·by_cases w:e.f=v
    ·have t:atV (e::r) v=e::atV r v:=by unfold atV;rw [Vj,if_pos (by simpa using w)]
     rw [t,Vj,if_neg (by simp;omega),VO,<-o.1]
    ·have t:atV (e::r) v=[]:=by
      unfold atV;rw [JA];intro x b;have d:=Ql.1 b;rcases d with rfl|b
      ·simpa using w
      ·have:=c x b;simp;omega
     have A:(e::r).filter (λe=>decide (v<e.f))=e::r:=by
      rw [JH];intro x b;have d:=Ql.1 b;rcases d with rfl|b
      ·simp;omega
      ·have:=c x b;simp;omega
     rw [t,A];rfl
   ·symm;rw [JA];intro x b;have d:=Ql.1 b;rcases d with rfl|b
    ·simpa using p
    ·have:=c x b;simp;omega
theorem seg_eq{l:List EdN}(h:l.Pairwise ltE)(v:Nat):(l.drop (cLt l v)).take (cLt l (v+1) - cLt l v)=atV l v:=by
 have b:=(zHo h v).1;have c:=zC3 l v;have d:=zIe l v;rw [b,show cLt l (v+1) - cLt l v=(atV l v).length by omega,V6]
theorem at_get{l:List EdN}(h:l.Pairwise ltE){v:Nat}(b:j<(atV l v).length):l[cLt l v+j]? = some (atV l v)[j]/\(atV l v)[j].f=v:=by
 have c:=(zHo h v).1;refine⟨?_,?_⟩
 ·rw [<-Vz,c,VL b,Qd b]
 ·have:=Qa b;have d:=(QC.1 this).2;exact of_decide_eq_true d
theorem zFZ{l:List EdN}(h:∀e∈l,e.f<n):cLt l n=l.length:=by
 unfold cLt;rw [JH.2 λe b=>by simpa using h e b]
theorem zAk{v:Nat}{l:List EdN}(h:v<=n):(offL n l)[v]? = some (cLt l v:Int):=zAT (by omega)
theorem zAp(n:Nat)(l:List EdN):(offL n l).length=n+1:=by simp [offL]
theorem zAx(l:List EdN):(toL l).length=l.length:=by simp [toL]
theorem zGa{l:List EdN}(h:l.Pairwise ltE)(v:Nat):((toL l).drop (cLt l v)).take (cLt l (v+1) - cLt l v)=toL (atV l v):=by
 unfold toL;rw [<-List.map_drop,<-List.map_take,seg_eq h]
theorem zBn(l:List EdN)(v:Nat):cLt l v<=cLt l (v+1):=by have:=zC3 l v;omega
theorem zK9(g:GrD)(v:Nat):nbL g 0 v=rowN g.es v:=by
 unfold nbL rowN atV;rw [if_neg (by decide)];congr 1
theorem zOt:∀{a b:List Nat},a.Pairwise (· < ·)->b.Pairwise (· < ·)->(∀x,x∈a↔x∈b)->a=b:=by
 intro a b e f h;have c:a.Nodup:=by rw [Qx];exact e.imp λh=>by omega
 have d:b.Nodup:=by rw [Qx];exact f.imp λh=>by omega
 have l:=(JM c d).2 h;exact l.eq_of_pairwise (λx y _ _ o p=>by omega) (e.imp λh=>Yj h) (f.imp λh=>Yj h)
theorem zHk{l:List EdN}(h:l.Pairwise ltE)(v:Nat):(rowN l v).Pairwise (· < ·):=by
 unfold rowN;rw [QY];have c:(atV l v).Pairwise ltE:=h.filter _;refine c.imp_of_mem λ{a b} d e hlt=>?_;have f:=(QC.1 d).2;have o:=(QC.1 e).2;simp only [decide_eq_true_eq] at f o;unfold ltE at hlt;show a.t<b.t;omega
theorem zMX{r:List EdN}(l:g.es.Pairwise ltE)(d:RevOf g r)(v:Nat):nbL g 1 v=rowN r v:=by
 have o:nbL g 1 v=(g.es.filter λe=>e.t==v).map (·.f):=by unfold nbL;rw [if_pos rfl]
 rw [o];refine zOt ?_ (zHk d.2 v) λx=>?_
 ·rw [QY];refine(l.filter _).imp_of_mem λ{a b} p q hlt=>?_;have c:=(QC.1 p).2;have w:=(QC.1 q).2;simp only [beq_iff_eq] at c w;unfold ltE at hlt;show a.f<b.f;omega
 ·unfold rowN atV;simp only [Qq,QC,beq_iff_eq,decide_eq_true_eq];constructor
  ·rintro⟨e,⟨h,c⟩,rfl⟩;exact⟨trnE e,⟨d.1.mem_iff.2 (Qq.2 ⟨e,h,rfl⟩),c⟩,rfl⟩
  ·rintro⟨e,⟨h,c⟩,rfl⟩;have y:=Qq.1 (d.1.mem_iff.1 h);obtain⟨z,h0,rfl⟩:=y;exact⟨z,⟨h0,c⟩,rfl⟩
theorem GrIs.rowI(h:GrIs g):RowI g.n g.es:=⟨h.ok.n1,h.ok.n2,h.ok.ed,h.er,h.ne⟩
theorem GrIs.rowR{r:List EdN}(h:GrIs g)(b:RevOf g r):RowI g.n r:=⟨h.ok.n1,h.ok.n2,λe d=>by
 have f:=Qq.1 (b.1.mem_iff.1 d);obtain⟨c,h0,rfl⟩:=f;exact⟨(h.ok.ed c h0).2,(h.ok.ed c h0).1⟩,b.2,by have:=b.1.length_eq;have:=h.ne;simp at *;omega⟩
section
variable {P:Program} {k:Value->World->Prop} {pn:List PanicEntry->World->Prop} {w:World}
theorem zPy{X Y:Operand}{t:TypeId}{x:Nat}(w:World):(do eqGuard .shr t X Y (.int .u64 (x:Int)) (.int .u64 1);binOp .shr t (.int .u64 (x:Int)) (.int .u64 1):Sem Value).run P w=.ok (.int .u64 ((x / 2:Nat):Int)) w:=by
 have g:(eqGuard .shr t X Y (.int .u64 (x:Int)) (.int .u64 1)).run P w=.ok () w:=rfl;rw [Qo,g,Qh];have b:min (1:Int).toNat IntKind.u64.bits=1:=rfl;simp only [binOp,Op.shift,b];rw [if_neg (by decide)]
 have:(x:Int).fdiv (2 ^ 1)=((x / 2:Nat):Int):=by
  rw [Int.fdiv_eq_ediv_of_nonneg _ (by decide)];simp
 rw [this];rfl
theorem rshr1{X Y:Operand}{t:TypeId}{x:Nat}(b:k (.int .u64 ((x / 2:Nat):Int)) w):SemV P (do eqGuard .shr t X Y (.int .u64 (x:Int)) (.int .u64 1);binOp .shr t (.int .u64 (x:Int)) (.int .u64 1)) k pn w:=SemV.of (zPy w) b
theorem tslD{α:Type}[Enc α]{t e:TypeId}{z:Value}{b:Nat}[f:SlT P t e][o:Elem P e z (Enc.sz α) b]{k:Value->Prop}{c:Nat}{l:List α}(lo hi:Nat)(h:SlF w (.slice a n c) l)(p:lo<=hi)(q:hi<=n)
  (r:k (.slice (if c=lo then a else a.map (·.add (lo*Enc.sz α))) (hi - lo) (c - lo))):TakeS P (Instr.sliceAt t (.slice a n c) (some (.int .i64 lo)) (some (.int .i64 hi)) none) D k w:=by
 have d:n<=c:=by obtain⟨a',y,v,x,_⟩:=h;cases v;exact x
 rw [zAe];exact⟨_,λw' _=>zA0 f o (some lo) (some hi) p (Qw q d) w',r⟩
end
theorem zGn{x y:Int}{w:World}:Sp PP 319 #[.int .i64 x,.int .i64 y] w λv w'=>Tells (x<y) v/\w'=w:=by
 refine eN ?_;refine rcall (zC4) ?_;rintro v w1 ⟨rfl,rfl⟩;exact ite (λh=>⟨.t h,rfl⟩) (λh=>⟨.f h,rfl⟩)
structure RwF (w:World) (x:RRow) (g:GrD) (r:List EdN):Prop where
 rev':RevOf g r
 off:SlF w (.slice x.off.a x.off.n x.off.c) (offL g.n g.es)
 to:SlF w (.slice x.to.a x.to.n x.to.c) (toL g.es)
 rof:SlF w (.slice x.rof.a x.rof.n x.rof.c) (offL g.n r)
 rev:SlF w (.slice x.rev.a x.rev.n x.rev.c) (toL r)
theorem RwF.up{w:World}[Le w w']{x:RRow}{r:List EdN}(h:RwF w x g r):RwF w' x g r:=⟨h.rev',h.off.up,h.to.up,h.rof.up,h.rev.up⟩
theorem zLB{c:Nat}{l:List EdN}{w:World}(h:SlF w (.slice a m c) (offL n l))(x:n<=200):Sp PP 335 #[.slice a m c] w λv w'=>v=.bool true/\Stp w w':=by
 have b:=h.len;obtain rfl:=b;have z:=zAp n l;refine eN ?_;refine rarE (y:=((n:Nat):Int)) (by omega) (by omega) (loop1 TBok 4 [2] 3 (λv u=>∃k:Nat,v=.int .i64 (k:Int)/\k<=n/\Stp w u) (λv _=>(Go.RowKit.intOf v).toNat) rfl ⟨n,rfl,Qe _,stp⟩ ?_);rintro v g u ⟨k,rfl,f,e⟩;refine ite (λhlt=>?_) (λo=>⟨rfl,stp⟩);have b:∃j,k=j+1:=⟨k - 1,by omega⟩;obtain⟨j,rfl⟩:=b;refine dQ 10 λp A=>?_;have d:=h.up (w':=p);refine tix (i:=j+1) d (zAk f) λC E q _=>tload1 (q.cell0 rfl) nf (rarE (y:=((j:Nat):Int)) (by omega) (by omega) (tix d (zAk (v:=j) (by omega)) λF G r _=>tload1 (r.cell0 rfl) nf (rcall zGn ?_)));have H:=zBn l j;rintro _ _ ⟨⟨rfl,t⟩|⟨rfl,t⟩,rfl⟩
 ·omega
 refine⟨Fr.refl _ _,?_⟩;refine rarE (y:=((j:Nat):Int)) (by omega) (by omega) ⟨⟨j,rfl,by omega,stp⟩,?_⟩;show ((j:Int)).toNat<(((j+1:Nat):Int)).toNat;omega
theorem zD0{most:Int}{c:Nat}{l:List Int}{w:World}(h:SlF w (.slice a n c) l)(C:l.length<=1000000):Sp PP 336 #[.int .i64 most,.slice a n c] w λv w'=>Tells (∀x∈l,0<=x/\x<=most) v/\Stp w w':=by
 have p:=h.len;obtain rfl:=p;refine eN ?_;refine cN 9 [4,6] 9 l.length (λk u=>(∀x∈l.take k,0<=x/\x<=most)/\Stp w u) ⟨by simp,stp⟩ ?_;rintro k g u E ⟨b,e⟩;refine ite (λhlt=>?_) (λr=>?_)
 ·have d:k<l.length:=by omega
  refine rix (h.up (w':=u)) (x:=l[k]) (by simp) λF G y=>rload1 (y.cell0 rfl) (ite (λz=>⟨.f λq=>by have:=q _ (Qa d);omega,stp⟩) (λz=>?_));refine ite (λA=>⟨.f λq=>by have:=q _ (Qa d);omega,stp⟩) (λA=>?_);refine rA ⟨rfl,d,λt o=>?_,stp⟩;rw [take_add d] at o;have p:=Qf.1 o;rcases p with o|o
  ·exact b t o
  ·rw [Qc.1 o];omega
 ·have p:k=l.length:=by omega
  obtain rfl:=p;rw [Qg] at b;exact⟨.t b,stp⟩
structure RaDat (l:List EdN) (n:Nat) (oa:Option Addr) (oc:Nat) (ta:Option Addr) (tc:Nat) (b1 b2:Nat) (u:World):Prop where
 off:SlF u (.slice oa (offL n l).length oc) (offL n l)
 to:SlF u (.slice ta (toL l).length tc) (toL l)
 bo:Bk u b1 [.slice oa (offL n l).length oc] 34
 bt:Bk u b2 [.slice ta (toL l).length tc] 34
section
variable {l:List EdN} {n:Nat} {oa:Option Addr} {oc:Nat} {ta:Option Addr} {tc b1 b2:Nat} {u u':World}
theorem RaDat.up[Le u u'](h:RaDat l n oa oc ta tc b1 b2 u):RaDat l n oa oc ta tc b1 b2 u':=⟨h.off.up,h.to.up,h.bo.mv,h.bt.mv⟩
theorem RaDat.qt(h:RaDat l n oa oc ta tc b1 b2 u)(q:Qt B u u'):RaDat l n oa oc ta tc b1 b2 u':=⟨h.off.qt q,h.to.qt q,h.bo.qt q,h.bt.qt q⟩
end
def raXs (l:List EdN):List (List Value):=l.map λe=>[.int .i64 (e.f:Int),.int .i64 (e.t:Int)]
theorem zK1{l:List EdN}:∀x∈raXs l,x.length=2:=by intro x b;obtain⟨e,_,rfl⟩:=Qq.1 b;rfl
theorem zMr{l:List EdN}{oa:Option Addr}{oc:Nat}{ta:Option Addr}{tc E F:Nat}(q:RowI n l):SeqOf PP 337 [] [.pointer (some ⟨E,0,none⟩),.pointer (some ⟨F,0,none⟩)] (RaDat l n oa oc ta tc E F) (raXs l):=by
 have hn:=q.n2;have U:=q.len;refine⟨λy J Jx w V W H X h0=>?_⟩;have O:=H _ _ h0;have Y:=zAp n l;refine eN ?_;refine rX O.bo rfl (rarE (y:=((n:Nat):Int)) (by omega) (by omega) (cN 10 [4,6] 10 n (λk u=>J (cLt l k) u) (by rw [zB8];exact h0) ?_));intro k G u hk I;refine ite (λhlt=>?_) (λZ=>?_)
 case' refine_2 =>
  have r:k=n:=by omega
  obtain rfl:=r;rw [zFZ λe he=>(q.lt e he).1] at I;refine .inl ?_;unfold raXs;rw [Qr];exact I
 have K:k<n:=by omega
 refine dQ 13 λu2 e2=>?_;have z:=V _ _ _ I e2.e;have c:=H _ _ z;have Q:=zBn l k;have a0:=cLt_le l (k+1);have a1:=zAx l;refine tX c.bt rfl nf (tX c.bo rfl nf ?_);refine tix c.off (zAk (v:=k) (by omega)) λb3 o3 A3 _=>tload1 (A3.cell0 rfl) nf (tX c.bo rfl nf (rarE (y:=((k+1:Nat):Int)) (by omega) (by omega) (tix c.off (zAk (v:=k+1) (by omega)) λb4 o4 A4 _=>tload1 (A4.cell0 rfl) nf ?_)));have L:=zGa q.ris k;refine tslD (cLt l k) (cLt l (k+1)) c.to Q (by omega) ?_
 have A:∀u,RaDat l n oa oc ta tc E F u->SlF u (.slice (if tc=cLt l k then ta else ta.map (·.add (cLt l k*Enc.sz Int))) (cLt l (k+1) - cLt l k) (tc - cLt l k)) (toL (atV l k)):=λu d=>by
  have:=d.to.part (cLt l k) (cLt l (k+1)) Q (by omega);rw [L] at this;exact this
 have a3:cLt l (k+1) - cLt l k=(atV l k).length:=by have:=(A _ c).len;rw [zAx] at this;exact this
 clear c O;refine cN 25 [6] 25 (atV l k).length (λj u=>J (cLt l k+j) u) z ?_;rintro j G2 u3 a4 h;have d3:=H _ _ h;refine ite (λR=>?_) (λS=>?_)
 ·have o:j<(atV l k).length:=by omega
  have r:=at_get q.ris o;obtain⟨C,M⟩:=r;refine rix (A _ d3) (x:=((atV l k)[j].t:Int)) (by simp [toL,o]) λb6 o6 A6=>rload1 (A6.cell0 rfl) ?_
  have hx:(raXs l)[cLt l k+j]? = some [.int .i64 (k:Nat),.int .i64 ((atV l k)[j].t:Int)]:=by
   unfold raXs;rw [QK,C];show some [Value.int .i64 ((atV l k)[j].f:Int),_]=_;rw [M]
  have N:=X _ u3 _ hx h;refine ryield rfl rfl rfl rfl N ?_;rintro b u' (⟨rfl,p⟩|⟨rfl,p⟩)
  ·exact rA ⟨rfl,o,p⟩
  ·exact .inr p
 ·have r:j=(atV l k).length:=by omega
  obtain rfl:=r;refine rA ⟨rfl,K,?_⟩;rw [show cLt l (k+1)=cLt l k+(atV l k).length by omega];exact h
theorem zGL{l:List EdN}{e f:Nat}{oa:Option Addr}{oc:Nat}{ta:Option Addr}{tc:Nat}{w:World}(h:SlF w (.slice oa e oc) (offL n l))(o:SlF w (.slice ta f tc) (toL l)):
  Sp PP 262 #[.slice oa e oc,.slice ta f tc] w λv w'=>(∃b c,v=.func (.func 337) #[] #[.pointer (some ⟨b,0,none⟩),.pointer (some ⟨c,0,none⟩)]/\RaDat l n oa oc ta tc b c w'/\w.heap.size<=b/\w.heap.size<=c)/\Stp w w':=by
 have d:=h.len;obtain rfl:=d;have d:=o.len;obtain rfl:=d;refine eN ?_;refine rbx λb w1 n1 p=>rbx λc r n2 q=>?_;exact⟨⟨b,c,rfl,⟨h.up,o.up,p.mv,q.mv⟩,n1.lo,n2.lo⟩,stp⟩
def lastE (l:List EdN):Nat->Int×Int
 |0=>(-1,0)
 |i+1=>match l[i]? with|some e=>(e.f,e.t)|none=>(-1,0)
theorem zFK{l:List EdN}{no nt:Nat}{oa:Option Addr}{oc:Nat}{ta:Option Addr}{tc:Nat}{w:World}(E:RowI n l)(F:SlF w (.slice oa no oc) (offL n l))(Z:SlF w (.slice ta nt tc) (toL l)):
  Sp PP 261 #[.slice oa no oc,.slice ta nt tc] w λv w'=>v=.bool true/\Stp w w':=by
 have O:=F.len;obtain rfl:=O;have O:=Z.len;obtain rfl:=O;have Q:=E.n1;have R:=E.n2;have h3:=E.len;have a8:=zAp n l;have a0:=zAx l;refine eN ?_;refine ral λbr w1 n1 z1=>rarE (y:=((n:Nat):Int)) (by omega) (by omega) (ral λbn w2 n2 z2=>rS z2 [.int .i64 (n:Int)] (zAa _) λS J f3 _=>?_);have J:Bk S bn [.int .i64 (n:Int)] 3:=J;have s3:Stp w1 S:=n2.st f3;clear z2;have a9:=n1.b;have b0:=n1.s;have b3:=n2.b;have b7:=n2.s;have b8:=f3.size;refine rX J rfl (iF (by first|omega|decide|(dsimp only <;> omega)) (rX J rfl (iF (by first|omega|decide|(dsimp only <;> omega)) (iF (by first|omega|decide|(dsimp only <;> omega)) (rix (i:=0) (F.up (w':=S)) (zAk (v:=0) (by omega)) λb4 o4 A4=>rload1 (A4.cell0 rfl) (iF (by rw [zB8];simp) (rX J rfl (rix (F.up (w':=S)) (zAk (v:=n) (Qe _)) λb5 o5 A5=>rload1 (A5.cell0 rfl) ?_))))))));have U:=zFZ (n:=n) (l:=l) λe K=>(E.lt e K).1;refine iF (by rw [U,a0];simp) (rcall (zLB (F.up (w':=S)) R) ?_);rintro _ w4 ⟨rfl,e4⟩;refine ral λL w5 n5 z5=>ral λM w6 n6 z6=>?_;have b9:=n5.b;have c0:=n5.s;have c1:=n6.b;have c2:=n6.s;have c3:=e4.e.size;refine rS (z5.mv (w:=w6)) [.int .i64 (-1)] (zAa _) λw7 V7 f7 _=>?_;have V7:Bk w7 L [.int .i64 (-1)] 3:=V7;refine rS (z6.fr f7 (by omega)) [.int .i64 0] (zAa _) λV W8 f8 _=>?_;have W8:Bk V M [.int .i64 0] 3:=W8;have V8:=V7.fr f8 (by omega);have s8:Stp w4 V:=⟨Fr.st (Fr.st (lE w4 w6) f7 (by omega)) f8 (by omega)⟩;clear z5 z6 V7;have c4:w6.heap.size<=V.heap.size:=by have Q:=f7.size;have R:=f8.size;omega
 refine rcall (zGL (n:=n) (l:=l) (F.up (w':=V)) (Z.up (w':=V))) ?_;rintro _ w9 ⟨⟨b1,b2,rfl,D9,c5,c6⟩,e9⟩;have c7:=e9.e.size
 refine rrange TBok rfl (gf:=337) (first:=[]) (cap:=[.pointer (some ⟨b1,0,none⟩),.pointer (some ⟨b2,0,none⟩)]) rfl rfl (zMr (oa:=oa) (oc:=oc) (ta:=ta) (tc:=tc) E) zK1
  (λi u=>Bk u bn [.int .i64 (n:Int)] 3/\Bk u L [.int .i64 (lastE l i).1] 3/\Bk u M [.int .i64 (lastE l i).2] 3/\Bk u br [.bool false] 4/\RaDat l n oa oc ta tc b1 b2 u/\Stp w u)
  (λ_ _=>False) ?_ ?_ ?_ ⟨J.mv,V8.mv,W8.mv,z1.mv,D9,stp⟩ ?_ ?_ ?_
 ·rintro i u u' ⟨A,a2,a3,C,r,N⟩ q;exact⟨A.qt q,a2.qt q,a3.qt q,C.qt q,r.qt q,N.qt (q.mono (by have:=lz w w9;omega))⟩
 ·rintro c u u' h;exact h.elim
 ·rintro i u ⟨_,_,_,_,r,_⟩;exact r
 ·rintro i y u W ⟨A,a2,a3,C,r,N⟩;unfold raXs at W;rw [QK,Vo] at W;obtain⟨e,K,rfl⟩:=W;have O:=Qy.1 K;obtain⟨hi,a1⟩:=O;have a4:e∈l:=Jy K;have hlt:=E.lt e a4;refine⟨Fr.refl _ _,λu1 q=>?_⟩;have A:=A.qt q;have a2:=a2.qt q;have a3:=a3.qt q;have C:=C.qt q;have r:=r.qt q;have N:=N.qt (q.mono (by have:=lz w w9;omega));refine rX A rfl (rarE (y:=((n - 1:Nat):Int)) (by omega) (by omega) (bS (e.t:Int) λb6 u2 e6 _ S6=>rcall (zD0 S6 (by simp)) ?_));rintro _ d ⟨⟨rfl,_⟩|⟨rfl,a5⟩,e7⟩
  case' inr=>exact absurd (by intro x W;rw [Qc.1 W];omega) a5
  have G:¬((e.f:Int)=(lastE l i).1/\(e.t:Int)<=(lastE l i).2):=by
   rintro⟨Q,R⟩
   cases i with
   |zero=>simp [lastE] at Q
   |succ i =>
    have X:i<l.length:=by omega
    have a6:lastE l (i+1)=(((l[i]).f:Int),((l[i]).t:Int)):=by simp [lastE,X]
    rw [a6] at Q R;have:=QX.1 E.ris i (i+1) X hi (by omega);rw [a1] at this;unfold ltE at this;simp only at Q R;omega
  refine rX a2 rfl (ite (λh5=>?_) (λh5=>?_))
  ·refine rX a3 rfl (ite (λh6=>absurd ⟨h5,h6⟩ G) (λh6=>?_));refine rS (a2.mv (w:=d)) [.int .i64 (e.f:Int)] (zAa _) λu4 H o _=>?_;have H:Bk u4 L [.int .i64 (e.f:Int)] 3:=H;have X4:=(a3.mv (w:=d)).fr o (by omega);refine rS X4 [.int .i64 (e.t:Int)] (zAa _) λY I p _=>?_;have I:Bk Y M [.int .i64 (e.t:Int)] 3:=I;have z:lastE l (i+1)=((e.f:Int),(e.t:Int)):=by simp [lastE,K]
   have s5:Stp w Y:=⟨Fr.st (Fr.st (lE w d) o (by omega)) p (by omega)⟩
   refine⟨⟨((A.mv (w:=d)).fr o (by omega)).fr p (by omega),by rw [z];exact H.fr p (by omega),by rw [z];exact I,((C.mv (w:=d)).fr o (by omega)).fr p (by omega),⟨F.up,Z.up,((r.bo.mv (w:=d)).fr o (by omega)).fr p (by omega),((r.bt.mv (w:=d)).fr o (by omega)).fr p (by omega)⟩,s5⟩,
    λi=>i=L\/i=M,((fE u1 d).trans (o.mono λi _ hi=>.inl hi)).trans (p.mono λi _ hi=>.inr hi)⟩
  ·refine rS (a2.mv (w:=d)) [.int .i64 (e.f:Int)] (zAa _) λu4 H o _=>?_;have H:Bk u4 L [.int .i64 (e.f:Int)] 3:=H;have X4:=(a3.mv (w:=d)).fr o (by omega);refine rS X4 [.int .i64 (e.t:Int)] (zAa _) λY I p _=>?_;have I:Bk Y M [.int .i64 (e.t:Int)] 3:=I;have z:lastE l (i+1)=((e.f:Int),(e.t:Int)):=by simp [lastE,K]
   have s5:Stp w Y:=⟨Fr.st (Fr.st (lE w d) o (by omega)) p (by omega)⟩
   refine⟨⟨((A.mv (w:=d)).fr o (by omega)).fr p (by omega),by rw [z];exact H.fr p (by omega),by rw [z];exact I,((C.mv (w:=d)).fr o (by omega)).fr p (by omega),⟨F.up,Z.up,((r.bo.mv (w:=d)).fr o (by omega)).fr p (by omega),((r.bt.mv (w:=d)).fr o (by omega)).fr p (by omega)⟩,s5⟩,
    λi=>i=L\/i=M,((fE u1 d).trans (o.mono λi _ hi=>.inl hi)).trans (p.mono λi _ hi=>.inr hi)⟩
 ·rintro D u ⟨A,a2,a3,C,r,N⟩ c8 hd;have zz:=lz w w9;refine rS C [.bool true] (zAj _) λu2 R2 f2 _=>?_;have R2:Bk u2 br [.bool true] 4:=R2;have a7:=f2.nc _ _ hd rfl;refine leave1 a7 λu' q=>?_;have R3:=R2.qt (q 0 (by omega));have s2:Stp w u2:=⟨Fr.st N.e f2 (by omega)⟩;refine rres (B:=R3) rfl ?_;exact⟨rfl,s2.qt (q _ (by omega))⟩
 ·rintro c D u h;exact h.elim
instance:KindT PP 256 .u64:=⟨by kernel_rfl⟩
theorem zHr{c:Nat}{l:List Int}{t:Int}{w:World}(h:SlF w (.slice a n c) l)(r:l.Pairwise (· < ·))(F:t∈l)(O:l.length<=1000000):
  Sp PP 263 #[.slice a n c,.int .i64 t] w λv w'=>(∃p:Nat,v=.tuple #[.int .i64 (p:Int),.bool true])/\Stp w w':=by
 have b:=h.len;obtain rfl:=b;have b:=QI.1 F;obtain⟨p,A,rfl⟩:=b;refine eN ?_
 refine loop2 TBok 13 [9] 7 8 (λf o u=>∃i j:Nat,f=.int .i64 (i:Int)/\o=.int .i64 (j:Int)/\i<=p/\p<=j/\j<=l.length/\Stp w u) (λf o _=>(Go.RowKit.intOf o).toNat - (Go.RowKit.intOf f).toNat) rfl
  ⟨0,l.length,rfl,rfl,by omega,by omega,Qe _,stp⟩ ?_
 rintro f o g u ⟨i,j,rfl,rfl,G,H,I,e⟩;refine ite (λhlt=>?_) (λJ=>?_)
 ·refine rarE (y:=((i+j:Nat):Int)) (by omega) (by omega) (rconvE (z:=((i+j:Nat):Int)) (by simp [IntKind.wrap,IntKind.signed,IntKind.bits];omega) ?_);refine rshr1 ?_;refine rconvE (z:=(((i+j) / 2:Nat):Int)) (zBZ (by omega) (by omega)) ?_;have C:(i+j) / 2<l.length:=by omega
  refine rix (h.up (w':=u)) (i:=(i+j) / 2) (x:=l[(i+j) / 2]) (by simp) λK L q=>rload1 (q.cell0 rfl) (rcall zGn ?_);rintro _ _ ⟨⟨rfl,E⟩|⟨rfl,E⟩,rfl⟩
  ·have:¬p<=(i+j) / 2:=λM=>by
    have b:=QH p ((i+j) / 2);rcases b with d|d
    ·have:=QX.1 r p _ A C d;omega
    ·have N:p=(i+j) / 2:=by omega
     simp only [<-N] at E;omega
   refine rarE (y:=(((i+j) / 2+1:Nat):Int)) (by omega) (by omega) ⟨⟨(i+j) / 2+1,j,rfl,rfl,by omega,H,I,e⟩,?_⟩;show ((j:Int)).toNat - ((((i+j) / 2+1:Nat):Int)).toNat<((j:Int)).toNat - ((i:Int)).toNat;omega
  ·have:p<=(i+j) / 2:=by
    have b:=QH ((i+j) / 2) p;rcases b with d|d
    ·have:=QX.1 r _ p C A d;omega
    ·exact d
   refine⟨⟨i,(i+j) / 2,rfl,rfl,G,this,by omega,e⟩,?_⟩;show ((((i+j) / 2:Nat):Int)).toNat - ((i:Int)).toNat<((j:Int)).toNat - ((i:Int)).toNat;omega
 ·have b:i=p:=by omega
  obtain rfl:=b;refine ite (λ_=>?_) (λh=>absurd h (by omega));refine rix (h.up (w':=u)) (x:=l[i]) (by simp) λK L q=>rload1 (q.cell0 rfl) (iT rfl ?_);exact⟨⟨i,rfl⟩,stp⟩
theorem zM2{r:List EdN}(b:RevOf g r){e:EdN}(c:e∈g.es):(e.f:Int)∈toL (atV r e.t):=by
 unfold toL;refine Qq.2 ⟨trnE e,QC.2 ⟨b.1.mem_iff.2 (Qq.2 ⟨e,c,rfl⟩),?_⟩,rfl⟩;simp [trnE]
theorem zQu{l:List EdN}(h:l.Pairwise ltE)(v:Nat):(toL (atV l v)).Pairwise (· < ·):=by
 have:=zHk h v;unfold rowN at this;unfold toL;rw [QY] at this ⊢;exact this.imp λh=>by omega
theorem zBL{x:RRow}{r:List EdN}{w:World}(G:GrIs g)(R:RwF w x g r):Sp PP 181 #[agg x] w λv w'=>v=.bool true/\Stp w w':=by
 have H:=G.rowI;have M:=G.rowR R.rev';have l1:=R.off.len;have l2:=R.to.len;have l3:=R.rof.len;have l4:=R.rev.len;have q1:=zAp g.n g.es;have q2:=zAx g.es;have q3:=zAp g.n r;have q4:=zAx r;have I:=R.rev'.1.length_eq;have a0:=G.ok.n2;rw [Qr] at I;refine eN ?_;refine rbx λbx w1 n1 d=>ral λN O n2 z2=>?_;have a1:=n1.b;have a3:=n1.s;have a4:=n2.b;have a5:=n2.s;refine rX d rfl (rX d rfl ?_);refine iF (by first|omega|decide|(dsimp only <;> omega)) (rX d rfl (rX d rfl ?_));refine iF (by first|omega|decide|(dsimp only <;> omega)) (rX d rfl (rX d rfl ?_));refine rcall (zFK H (R.off.up (w':=O)) (R.to.up (w':=O))) ?_;rintro _ Q ⟨rfl,e3⟩;refine rX d rfl (rX d rfl ?_);refine rcall (zFK M (R.rof.up (w':=Q)) (R.rev.up (w':=Q))) ?_;rintro _ S ⟨rfl,e4⟩;refine rX d rfl (rX d rfl ?_);refine rcall (zGL (n:=g.n) (l:=g.es) (R.off.up (w':=S)) (R.to.up (w':=S))) ?_;rintro _ w5 ⟨⟨U,V,rfl,D5,a6,a7⟩,e5⟩;have W:=lz w w5
 refine rrange TBok rfl (gf:=337) (first:=[]) (cap:=[.pointer (some ⟨U,0,none⟩),.pointer (some ⟨V,0,none⟩)]) rfl rfl (zMr (oa:=x.off.a) (oc:=x.off.c) (ta:=x.to.a) (tc:=x.to.c) H) zK1
  (λi u=>Bk u bx (enc x) 82/\Bk u N [.bool false] 4/\RaDat g.es g.n x.off.a x.off.c x.to.a x.to.c U V u/\Stp w u)
  (λ_ _=>False) ?_ ?_ ?_ ⟨d.mv,z2.mv,D5,stp⟩ ?_ ?_ ?_
 ·rintro i u u' ⟨o,a2,z,A⟩ q;exact⟨o.qt q,a2.qt q,z.qt q,A.qt (q.mono W)⟩
 ·rintro c u u' h;exact h.elim
 ·rintro i u ⟨_,_,z,_⟩;exact z
 ·rintro i y u J ⟨o,a2,z,A⟩;unfold raXs at J;rw [QK,Vo] at J;obtain⟨e,he,rfl⟩:=J;have E:e∈g.es:=Jy he;have hlt:=H.lt e E;refine⟨Fr.refl _ _,λu1 q=>?_⟩;have o:=o.qt q;have a2:=a2.qt q;have z:=z.qt q;have A:=A.qt (q.mono W);refine drawR TBRok mixed (λ_=>False) (upF 21 0) (by kernel_rfl) λC d2 _=>?_;have X:=zBn r e.t;have a8:=cLt_le r (e.t+1);refine tX o rfl nf (tX o rfl nf ?_);refine tix (R.rof.up (w':=C)) (zAk (v:=e.t) (by omega)) λb3 o3 A3 _=>tload1 (A3.cell0 rfl) nf (tX o rfl nf (rarE (y:=((e.t+1:Nat):Int)) (by omega) (by omega) (tix (R.rof.up (w':=C)) (zAk (v:=e.t+1) (by omega)) λb4 o4 A4 _=>tload1 (A4.cell0 rfl) nf ?_)));have Y:=R.rev.up (w':=C);refine tslD (cLt r e.t) (cLt r (e.t+1)) Y X (by omega) ?_;have F:=Y.part (cLt r e.t) (cLt r (e.t+1)) X (by omega);rw [zGa R.rev'.2 e.t] at F;refine rcall (zHr (t:=(e.f:Int)) F (zQu R.rev'.2 _) (zM2 R.rev' E) (by rw [zAx];have:=Qv (λe'=>decide (e'.f=e.t)) r;have:=M.len;unfold atV;omega)) ?_;rintro _ u3 ⟨⟨p,rfl⟩,e6⟩;refine⟨e6.e,?_⟩;exact⟨⟨o.mv,a2.mv,z.up,stp⟩,λ_=>False,lE u1 u3⟩
 ·rintro D u ⟨o,a2,z,A⟩ a9 hd;refine rS a2 [.bool true] (zAj _) λC K Z _=>?_;have K:Bk C N [.bool true] 4:=K;have L:=Z.nc _ _ hd rfl;refine leave1 L λu' q=>?_;have R3:=K.qt (q 0 (by omega));have s2:Stp w C:=⟨Fr.st A.e Z (by omega)⟩;refine rres (B:=R3) rfl ?_;exact⟨rfl,s2.qt (q _ (by omega))⟩
 ·rintro c D u h;exact h.elim
theorem zGM{x:RRow}{r l:List EdN}{p q:Nat}{oa:Option Addr}{oc:Nat}{ta:Option Addr}{tc v:Nat}{w:World}(F:GrIs g)(R:RwF w x g r)(d:RowI g.n l)(h:SlF w (.slice oa p oc) (offL g.n l))(t:SlF w (.slice ta q tc) (toL l))(U:v<g.n):
  Sp PP 377 #[agg x,.slice oa p oc,.slice ta q tc,.int .i64 (v:Int)] w λG w'=>(∃z,G=.tuple #[z,.bool true]/\Own w.heap.size 3 w' z (intsN (rowN l v)))/\Stp w w':=by
 have V:=h.len;have W:=t.len;have X:=zAp g.n l;have Y:=zAx l;have Z:=d.n2;refine eN ?_;refine rbx λbx w1 n1 H=>rG H x (rcall (zBL F (R.up (w':=w1))) ?_);rintro _ w2 ⟨rfl,e2⟩;refine rarE (y:=((g.n - 1:Nat):Int)) (by omega) (by omega) (bS (v:Int) λb3 w3 e3 _ I=>rcall (zD0 I (by simp)) ?_);rintro _ w4 ⟨⟨rfl,_⟩|⟨rfl,o⟩,e4⟩
 case' inr=>exact absurd (by intro x J;rw [Qc.1 J];omega) o
 refine dQ 14 λc e5=>?_;have A:=zBn l v;have K:=cLt_le l (v+1);refine tix (h.up (w':=c)) (zAk (v:=v) (by omega)) λb6 o6 L _=>tload1 (L.cell0 rfl) nf (rarE (y:=((v+1:Nat):Int)) (by omega) (by omega) (tix (h.up (w':=c)) (zAk (v:=v+1) (by omega)) λb7 o7 M _=>tload1 (M.cell0 rfl) nf ?_));have C:=t.up (w':=c);refine tslD (cLt l v) (cLt l (v+1)) C A (by omega) ?_;have b:=C.part (cLt l v) (cLt l (v+1)) A (by omega);rw [zGa d.ris v] at b;refine rcall (zBh b (by rw [zAx];have:=Qv (λN=>decide (N.f=v)) l;have:=d.len;unfold atV;omega)) ?_;rintro O w6 ⟨E,Q⟩;refine⟨Q.e,?_⟩;have S:toL (atV l v)=intsN (rowN l v):=by unfold toL intsN rowN;rw [VM];rfl
 rw [S] at E;exact⟨⟨O,rfl,E.mono (lz w c)⟩,stp⟩
theorem zMg{x:RRow}{r:List EdN}{v:Nat}{w:World}(d:GrIs g)(R:RwF w x g r)(f:v<g.n):
  Sp PP 344 #[agg x,.int .i64 (v:Int)] w λh w'=>(∃b,h=.tuple #[b,.bool true]/\Own w.heap.size 3 w' b (intsN (nbL g 0 v)))/\Stp w w':=by
 refine eN ?_;refine rbx λbx w1 n1 c=>rG c x (rX c rfl (rX c rfl ?_));refine rcall (zGM d (R.up (w':=w1)) d.rowI (R.off.up (w':=w1)) (R.to.up (w':=w1)) f) ?_;rintro _ l ⟨⟨b,rfl,e⟩,o⟩;rw [<-zK9] at e;exact⟨⟨b,rfl,e.mono (lz w w1)⟩,stp⟩
theorem zNO{x:RRow}{r:List EdN}{v:Nat}{w:World}(c:GrIs g)(R:RwF w x g r)(f:v<g.n):
  Sp PP 345 #[agg x,.int .i64 (v:Int)] w λh w'=>(∃b,h=.tuple #[b,.bool true]/\Own w.heap.size 3 w' b (intsN (nbL g 1 v)))/\Stp w w':=by
 refine eN ?_;refine rbx λbx w1 n1 d=>rG d x (rX d rfl (rX d rfl ?_));refine rcall (zGM c (R.up (w':=w1)) (c.rowR R.rev') (R.rof.up (w':=w1)) (R.rev.up (w':=w1)) f) ?_;rintro _ l ⟨⟨b,rfl,e⟩,o⟩;rw [<-zMX c.er R.rev'] at e;exact⟨⟨b,rfl,e.mono (lz w w1)⟩,stp⟩
end Go.W
