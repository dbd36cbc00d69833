/-
  Proved here: a part of the walks and plain laws of this claim (merged by a program of mine).
  Conditions: those that each fact names.
-/
import Derived.Deep.Upon
import Derived.Test.YtgjanodnkajinaaGreatJ5
set_option maxHeartbeats 8000000
set_option linter.unusedVariables false
set_option linter.unusedSimpArgs false
namespace Go.W
open Go Go.Proofs
open Enc (enc)
set_option maxRecDepth 10000
variable {B i j k m n n2:Nat} {P:Program} {a a2:Option Addr} {g:GrD} {q:QyD} {w w' w1:World}
section
variable {R:Nat->Prop} {B bs:Nat} {w:World} {g:GrD} {cf:CfD}
structure AnsP (R:Nat->Prop) (B bs:Nat) (w:World) (g:GrD) (cf:CfD) (k:Nat) (vt vo:Value) (u:World) (R':Nat->Prop) (s:SvD) (took:List RqD) (out:List (RqD×AnP)) (ys:List RReq) (xs:List RTold):Prop where
 S:SrvP R' B u bs g cf s
 I:AnsI g cf s took out
 K:TkO R' w.heap.size u vt ys took
 O:OutO R' w.heap.size u vo xs out
 tl:took.length<=k
 ol:out.length<=64*k
 rr:∀i,R' i->R i\/w.heap.size<=i
 fr:Fr R w u
theorem zDI{c:Nat}{l:List REv}(S:SrvP R B w bs g cf (newS cf))(hB:B<=w.heap.size)(hl:l.length=n)(hs:∀u,Fr R w u->SlF u (.slice a n c) l)(hm:∀y∈l,∃ps:List Int,∀u,Fr R w u->SlF u y.picks.v ps)(h80:l.length<=80)(hf:∀y∈l,y.frame.length<=300):
  Sp PP F.z0 #[.pointer (some ⟨bs,0,none⟩),.slice a n c] w λv w'=>∃vo R' s took out ys xs vt,v=.tuple #[vo,.bool true]/\AnsP R B bs w g cf l.length vt vo w' R' s took out ys xs:=by
 subst hl
 refine en TBok rfl ?_
 refine cnt2 TBok 9 [4,5] 6 7 8 l.length (λk vt vo u=>∃R' s took out ys xs,AnsP R B bs w g cf k vt vo u R' s took out ys xs) rfl rfl
  ⟨R,_,[],[],[],[],S,zNF,⟨Own.nil _ _ _,zIN,rfl⟩,⟨Own.nil _ _ _,zIN,rfl,λi x d hx=>by simp at hx⟩,by simp,by simp,λ_ h=>.inl h,Fr.refl _ _⟩ ?_
 rintro k vt vo G u hk ⟨R',s,took,out,ys,xs,P⟩
 obtain⟨S,I,K,O,htl,hol,hrr,fu⟩:=P
 have zu:=fu.size
 have q_:=S.ok
 obtain⟨hgi,hcf,hso⟩:=q_
 refine ite (λhlt=>?_) (λhge=>?_)
 ·have hk1:k<l.length:=by omega
  have hiy:l[k]? = some l[k]:=by simp
  have q_:∃y,y=l[k]:=⟨_,rfl⟩
  obtain⟨y,hy⟩:=q_
  rw [<-hy] at hiy
  have hym:y∈l:=by rw [hy];exact List.getElem_mem hk1
  have q_:=hm y hym
  obtain⟨ps,hps⟩:=q_
  have hyf:=hf y hym
  have hsu:=hs u fu
  obtain⟨yt,yf,pa,pn,pc⟩:=y
  have hps:∀u,Fr R w u->SlF u (.slice pa pn pc) ps:=hps
  have hyf:yf.length<=300:=hyf
  refine rix (i:=k) hsu hiy λb1 o1 A1=>rload1 (A1.cell 0 rfl) ?_
  cases yt with
  |true =>
   refine rix (i:=k) hsu hiy λb2 o2 A2=>rload1 (A2.cell 2 rfl) (rcall (zB0 S (by omega) λv fv=>hps v (fr_in fv fu hrr)) ?_)
   rintro v5 u5 ⟨R5,O5,hoff,S5,hR5,f5⟩
   have z5:=f5.size
   have fu5:=fr_in f5 fu hrr
   have K5:=K.fr f5 hR5
   have O5':=O.fr f5 hR5
   have hR5':∀i,R5 i->R i\/w.heap.size<=i:=λi hi=>by
    have q_:=hR5 i hi
    rcases q_ with h|h
    ·exact hrr i h
    ·exact .inr (by omega)
   have hlo5:=(SrvX.reg S5).1
   have hlt:=zNy S
   have q_:∃L,L=tickR g cf s:=⟨_,rfl⟩
   obtain⟨L,hL⟩:=q_
   rw [zJW,<-hL] at O5
   rw [zJW,<-hL] at hlt
   have hLl:((L.map bytR).map bsOf).length=L.length:=by simp
   have hLm:(L.map bytR).length=L.length:=by simp
   have hrep:∀p∈L,RepOk (repOf p.1 p.2.1 p.2.2) p.2.2.hits:=λp hp=>(zKr S.ok.1.ok hcf hso (hL ▸ hp)).1
   have hof:∀p∈L,∃i x,took[i]? = some x/\x.id=p.1/\(∀(j:Nat) (y:RqD),i<j->took[j]? = some y->y.id≠p.1)/\(p.2.1=0->RqOk g x/\AlRep g cf x p.2.2):=λp hp=>ans_of hcf I (hL ▸ hp)
   have q_:∃n,n=((L.map bytR).map bsOf).length:=⟨_,rfl⟩
   obtain⟨n5,hn5⟩:=q_
   have q_:=O5.shape
   obtain⟨a5,c5,hv5⟩:=q_
   rw [<-hn5] at hv5
   subst hv5
   rw [hLl] at hn5
   refine cnt1 TBok 15 [4,5] 7 14 L.length (λi vo u=>∃out' xs',SrvP R5 B u bs g cf (tickS g cf s).1/\Own w.heap.size E.qg u (.slice a5 n5 c5) ((L.map bytR).map bsOf)/\TkO R5 w.heap.size u vt ys took/\OutO R5 w.heap.size u vo xs' out'/\(∀d∈out',RqOk g d.1/\AlRep g cf d.1 d.2)/\out'.length<=out.length+i/\Fr R w u/\u5.heap.size<=u.heap.size) rfl rfl
    ⟨out,xs,S5,O5.mono zu,K5,O5',I.out,by omega,fu5,Nat.le_refl _⟩ ?_
   rintro i v7 G7 u7 hi7 ⟨out7,xs7,S7,X7,K7,O7,hout7,hol7,fu7,zz7⟩
   have zu7:=fu7.size
   refine ite (λhlt3=>?_) (λhge3=>?_)
   ·have h9:(i:Int)<((n5:Nat):Int):=hlt3
    clear hlt3
    have hi1:i<L.length:=by omega
    have q_:∃p,p=L[i]:=⟨_,rfl⟩
    obtain⟨p,hp⟩:=q_
    have hpm:p∈L:=by rw [hp];exact List.getElem_mem hi1
    have hxi:((L.map bytR).map bsOf)[i]? = some (bsOf (bytR p)):=by simp [hi1,hp]
    refine rix X7.sl hxi λb9 o9 A9=>rload1 (A9.cell0 rfl) (rcall (zNZ (hrep p hpm)) ?_)
    rintro _ u8 ⟨⟨r,rfl,r1,r2,r3,r4,OH⟩,e8⟩
    refine ral λbr w9 n9 X9=>?_
    have hbr:=n9.lo (u:=u7)
    refine rsto (B:=X9) (vs:=enc r) rfl rfl rfl (Enc.one _) λw10 X10 f10 _=>?_
    have X10:Bk w10 br (enc r) E.qc:=X10
    have t10:Stp u7 w10:=⟨Fr.st (Le.e (a:=u7) (b:=w9)) f10 λi hi=>by omega⟩
    have z8:=e8.e.size
    have z10:=t10.e.size
    have OH10:=(OH.up (w':=w9)).frc f10 X9 (by decide)
    have H10:HitO R5 w.heap.size w10 r.a.s p.2.2.hits:=HitO.new OH10 (by omega) λi hi=>by have:=(hlo5 i hi).2;omega
    have K10:=K7.up (w':=w10)
    have O10:=O7.up (w':=w10)
    have S10:=S7.up (w':=w10)
    have hyl:=K10.len
    have q_:=hof p hpm
    obtain⟨i0,x0,hx0,hx1,hx2,hx3⟩:=q_
    have q_:=K10.get hx0
    obtain⟨y0,hy0,hk0⟩:=q_
    have q_:∃n,n=ys.length:=⟨_,rfl⟩
    obtain⟨ny,hny⟩:=q_
    have q_:=K10.own.shape
    obtain⟨at7,ct7,hvt⟩:=q_
    rw [<-hny] at hvt
    subst hvt
    refine rA ?_
    have hi0:i0<ny:=by have:=(List.getElem?_eq_some_iff.1 hx0).1;omega
    refine loop1 TBok 18 [] 17 (λv u=>Stp w10 u/\∃m:Nat,v=.int .i64 (m:Int)/\i0<=m/\m<ny/\∀(j:Nat) (y:RReq),m<j->ys[j]? = some y->y.id≠p.1) (λv _=>(Go.RowKit.intOf v).toNat) rfl ⟨stp,ny - 1,congrArg (Value.int .i64) (by omega),by omega,by omega,λj y hj hy=>by have:=(List.getElem?_eq_some_iff.1 hy).1;omega⟩ ?_
    rintro vk Gk uk ⟨tk,m,rfl,hm1,hm2,hm3⟩
    have hyk:ys[m]? = some (ys[m]'(by omega)):=by simp
    have q_:∃z,z=ys[m]'(by omega):=⟨_,rfl⟩
    obtain⟨z,hz⟩:=q_
    rw [<-hz] at hyk
    have X11:=X10.mv (w:=uk)
    refine drawR TBok mixed (λ_=>False) (upF 12 0) (by kernel_rfl) λu11 e11 _=>ite (λh1=>?_) (λh1=>absurd (by omega) h1)
    refine tix (K10.own.sl.up (w':=u11)) hyk λb12 o12 A12 _=>tload1 (A12.cell 0 rfl) nf (tld (B:=X11) rfl nf (ite (λh2=>?_) (λh2=>?_)))
    ·have hmi:i0<m:=by
      have q_:=Nat.lt_or_ge i0 m
      rcases q_ with h|h
      ·exact h
      ·exfalso
       have hm:m=i0:=by omega
       rw [hm,hy0] at hyk
       have hzy:y0=z:=Option.some.inj hyk
       have h5:y0.id=x0.id:=congrArg (λq=>q.1) hk0
       apply h2
       show z.id=r.id
       rw [<-hzy,h5,hx1,r1]
     refine rA ⟨⟨stp,m - 1,congrArg (Value.int .i64) (by omega),by omega,by omega,λj y hj hy=>?_⟩,?_⟩
     ·have q_:=Nat.lt_or_ge m j
      rcases q_ with h|h
      ·exact hm3 j y h hy
      ·have hjm:j=m:=by omega
       rw [hjm,hyk] at hy
       have hzy:z=y:=Option.some.inj hy
       rw [<-hzy,<-r1];exact h2
     ·show (((m:Int) - 1)).toNat<((m:Int)).toNat
      omega
    ·have hzr:z.id=r.id:=Classical.not_not.1 h2
     have hmi:m=i0:=by
      have q_:=Nat.lt_or_ge i0 m
      rcases q_ with h|h
      ·exfalso
       have q_:=K10.tget hyk
       obtain⟨t,ht,hkt⟩:=q_
       have h5:z.id=t.id:=congrArg (λq=>q.1) hkt
       exact hx2 m t h ht (by rw [<-h5,hzr,r1])
      ·omega
     have hyk0:=hyk
     rw [hmi,hy0] at hyk
     have hzy:y0=z:=Option.some.inj hyk
     refine iF (by decide) (iF (by omega) ?_)
     have X12:=X11.mv (w:=u11)
     refine rld (B:=X12) rfl ?_
     have fu14:∀u14,Stp w10 u14->Fr R w u14:=λu14 t14=>(fu7.trans (Fr.fr t10.e)).trans (Fr.fr t14.e)
     refine ite (λh4=>?_) (λh4=>?_)
     ·have hp0:p.2.1=0:=by rw [<-r2];exact h4
      have hD:∀g',Value.blk (.slice at7 ny ct7)=some g'->¬ownD w.heap.size v7 g':=λg' hg'=>K10.own.notOwn (λh0=>by rw [h0] at hny;simp at hny;omega) hg' O10.own (by decide)
      have hDr:¬ownD w.heap.size v7 br:=X10.notOwn O10.own (by decide)
      refine drawRT TBok mixed (ownD w.heap.size v7) (.one 0 (.one 1 (.one 2 (.one 3 (.one 4 (.one 5 (.one 6 (.one 7 (.one 8 (.one 9 (.one 10 .nil))))))))))) (by kernel_rfl) λu14 e14 _=>tixO rfl (K10.own.up (w':=u14)) hyk0 λg14 hg14 _ A14=>tloadA (A14.sub 2 6) rfl (hD g14 hg14) (tldG (ds:=enc r) (B:=X10.mv (w:=u14)) rfl (Enc.len _) hDr (tbuild (cs:=enc (⟨z.q,r⟩:RTold)) rfl (rbs1 (⟨z.q,r⟩:RTold) rfl rfl (by decide) λb15 u15 e15 _ S15=>⟨Fr.fr e15.e,?_⟩)))
      have O15:=(O10.up (w':=u14)).up (w':=u15)
      have z15:=Le.size (a:=w10) (b:=u15)
      have hxl:=O15.len
      refine rappD ⟨rfl,rfl⟩ O15.own S15 (by simp) (by omega) (by simp only [List.length_cons,List.length_nil];omega) λv16 u16 P16 f16 hv16=>⟨f16,?_⟩
      have z16:=f16.size
      have N16:=zKx (X:=R5) O15.blk hv16 P16 (by simp) (λi hi=>by have:=(hlo5 i hi).2;omega) z16
      have S16:=((S10.up (w':=u14)).up (w':=u15)).away f16 λb h5 h6=>(O15.blk b (zJp h5).2).2 h6
      have K16:=((K10.up (w':=u14)).up (w':=u15)).fro O15.own f16 (by decide)
      have X16:=(((X7.up (w':=w10)).up (w':=u14)).up (w':=u15)).fro O15.own f16 (by decide)
      have H16:=((H10.up (w':=u14)).up (w':=u15)).fro O15.own f16 (by decide)
      have fu16:Fr R w u16:=fr_in f16 (((fu7.trans (Fr.fr t10.e)).trans (Fr.fr (Le.e (a:=w10) (b:=u14)))).trans (Fr.fr (Le.e (a:=u14) (b:=u15)))) λi hi=>.inr hi.1
      have O16:OutO R5 w.heap.size u16 v16 (xs7++[⟨z.q,r⟩]) (out7++[(x0,p.2.2)]):=by
       refine⟨P16,N16,by simp [hxl],λj x d hx hd=>?_⟩
       have q_:=Nat.lt_or_ge j xs7.length
       rcases q_ with h5|h5
       ·rw [List.getElem?_append_left h5] at hx
        rw [List.getElem?_append_left (by rw [<-hxl];exact h5)] at hd
        have h6:=O15.all j x d hx hd
        exact⟨h6.1,h6.2.fro O15.own f16 (by decide)⟩
       ·have h6:j=xs7.length:=by
         have:=(List.getElem?_eq_some_iff.1 hx).1
         simp at this;omega
        subst h6
        rw [List.getElem?_append_right (Nat.le_refl _),Nat.sub_self] at hx
        rw [hxl,List.getElem?_append_right (Nat.le_refl _),Nat.sub_self] at hd
        have hx:(⟨z.q,r⟩:RTold)=x:=Option.some.inj hx
        have hd:(x0,p.2.2)=d:=Option.some.inj hd
        subst hx hd
        rw [hzy] at hk0
        injection hk0 with _ hk0
        injection hk0 with k1 hk0
        injection hk0 with k2 hk0
        injection hk0 with k3 k4
        exact⟨⟨k1,k2,k3,k4,r3,r4⟩,H16⟩
      refine rA ⟨rfl,by omega,out7++[(x0,p.2.2)],xs7++[⟨z.q,r⟩],S16,X16,K16,?oo,λd hd=>?_,by simp;omega,fu16,?_⟩
      case oo =>
       first|(with_unfolding_all exact O16)|(have h:=O16;simp (config:={zeta:=false}) only [upd];exact 3)
      ·have q_:=List.mem_append.1 hd
       rcases q_ with h5|h5
       ·exact hout7 d h5
       ·rw [List.mem_singleton.1 h5];exact hx3 hp0
      ·omega
     ·have hp0:¬p.2.1=0:=by rw [<-r2];exact h4
      refine rA ⟨rfl,by omega,out7,xs7,S10.up,(X7.up (w':=w10)).up,K10.up,O10.up,hout7,by omega,fu14 _ stp,?_⟩
      have:=Le.size (a:=w10) (b:=u11)
      omega
   ·have hil:i=L.length:=by have h9:¬(i:Int)<((n5:Nat):Int):=hge3;omega
    have I2:=zMD hcf I hout7
    refine rA ⟨rfl,hk1,R5,_,took,out7,ys,xs7,S7,I2,K7,O7,by omega,by omega,hR5',fu7⟩
  |false =>
   refine rix (i:=k) hsu hiy λb2 o2 A2=>rload1 (A2.cell 1 rfl) ?_
   have D:=zDA (f:=yf) S (by omega) (by omega)
   have q_:∃o,(comeS g cf s yf).2=o:=⟨_,rfl⟩
   obtain⟨o,ho⟩:=q_
   rw [ho] at D
   refine rcall D ?_
   rintro _ u7 ⟨rfl,S7,f7⟩
   have z7:=f7.size
   have fu7:=fr_in f7 fu hrr
   have hs7:=hs u7 fu7
   have hR7:∀i,gR R' u u7 i->gR R' u u7 i:=λ_ h=>h
   have K7:=K.fr f7 hR7
   have O7:=O.fr f7 hR7
   refine rix (i:=k) hs7 hiy λb3 o3 A3=>rload1 (A3.cell 1 rfl) (rcall (zBP (s:=yf) (by omega)) ?_)
   rintro _ u8 ⟨hq,e8⟩
   have cm:=zMC I yf
   have hC:∀e:Int,(o=none->reqOf yf=none)\/(∃t,o=some t)->AnsI g cf (comeS g cf s yf).1 took out:=by
    intro e h
    rcases cm with ⟨x,h1,h2,_⟩|⟨_,h2⟩
    ·rw [ho] at h1
     rcases h with h|⟨t,h⟩
     ·rw [h h1] at h2;cases h2
     ·rw [h1] at h;cases h
    ·exact h2
   have skip:∀u9,Stp u7 u9->AnsI g cf (comeS g cf s yf).1 took out->∃R' s' took' out' ys' xs',AnsP R B bs w g cf (k+1) vt vo u9 R' s' took' out' ys' xs':=λu9 t9 hI=>by
    have z9:=t9.e.size
    exact⟨_,_,took,out,ys,xs,S7.up,hI,K7.up,O7.up,by omega,by omega,λi hi=>by
     rcases hi with hi|hi
     ·exact hrr i hi
     ·exact .inr (by omega),fu7.trans (Fr.fr t9.e)⟩
   rcases hq with ⟨d,q,hrq,rfl,hO⟩|⟨hrq,rfl⟩
   ·refine ral λbq w9 n9 X9=>?_
    have hbq:=n9.lo (u:=u7)
    refine rsto (B:=X9) (vs:=enc q) rfl rfl rfl (Enc.one _) λw10 X10 f10 _=>?_
    have X10:Bk w10 bq (enc q) E.qd:=X10
    have t10:Stp u7 w10:=⟨Fr.st (Le.e (a:=u7) (b:=w9)) f10 λi hi=>by omega⟩
    cases o with
    |some t =>
     exact rA ⟨rfl,hk1,skip w10 t10 (hC 0 (.inr ⟨t,rfl⟩))⟩
    |none =>
     refine iT rfl ?_
     rcases cm with ⟨x,_,h2,h3⟩|⟨h1,_⟩
     ·rw [hrq] at h2
      have hdx:d=x:=Option.some.inj h2
      rw [<-hdx] at h3
      have hkey:keyR q=keyD d:=by
       obtain⟨e1,e2,e3,e4,e5,_,e6,_⟩:=hO
       show (_,_,_,_,_)=(_,_,_,_,_)
       rw [e1,e3,e4,e5,e6]
      refine rldG (ds:=enc q) (B:=X10) rfl (Enc.len _) (rbs1 q rfl rfl (by decide) λb11 u11 e11 _ S11=>?_)
      have K11:=(K7.up (w':=w10)).up (w':=u11)
      have z11:=Le.size (a:=u7) (b:=u11)
      have hyl:=K.len
      refine rappD ⟨rfl,rfl⟩ K11.own S11 (by simp) (by omega) (by simp only [List.length_cons,List.length_nil];omega) λv12 u12 O12 f12 hv12=>?_
      have z12:=f12.size
      have N12:=zKx (X:=gR R' u u7) K11.blk hv12 O12 (by simp) (λi hi=>by
       rcases hi with hi|hi
       ·have:=((SrvX.reg S).1 i hi).2;omega
       ·omega) z12
      have S12:=((S7.up (w':=w10)).up (w':=u11)).away f12 λb h4 h5=>(K11.blk b (zJp h4).2).2 h5
      have O13:=((O7.up (w':=w10)).up (w':=u11)).fro K11.own f12 (by decide) (by decide)
      have fu12:Fr R w u12:=fr_in f12 ((fu7.trans (Fr.fr (Le.e (a:=u7) (b:=w10)))).trans (Fr.fr (Le.e (a:=w10) (b:=u11)))) λi hi=>.inr hi.1
      refine rA ⟨rfl,hk1,_,_,took++[d],out,ys++[q],xs,S12,h3,⟨O12,N12,by rw [List.map_append,List.map_append,K7.key];simp only [List.map_cons,List.map_nil,hkey]⟩,O13,by simp;omega,by omega,λi hi=>?_,fu12⟩
      rcases hi with hi|hi
      ·exact hrr i hi
      ·exact .inr (by omega)
     ·rw [h1 ho] at hrq;cases hrq
   ·refine ral λbq w9 n9 X9=>?_
    have hbq:=n9.lo (u:=u7)
    refine rsto (B:=X9) (vs:=enc zRq) rfl rfl rfl (Enc.one _) λw10 X10 f10 _=>?_
    have t10:Stp u7 w10:=⟨Fr.st (Le.e (a:=u7) (b:=w9)) f10 λi hi=>by omega⟩
    cases o with
    |some t =>
     exact rA ⟨rfl,hk1,skip w10 t10 (hC 0 (.inr ⟨t,rfl⟩))⟩
    |none =>
     refine iF (by decide) ?_
     exact rA ⟨rfl,hk1,skip w10 t10 (hC 0 (.inl λ_=>hrq))⟩
 ·have:k=l.length:=by omega
  subst this
  exact⟨_,R',s,took,out,ys,xs,_,rfl,S,I,K,O,htl,hol,hrr,fu⟩
end
end Go.W
namespace Go.W
open Go
set_option maxRecDepth 10000
variable {B i j k m n n2:Nat} {P:Program} {a a2:Option Addr} {g:GrD} {q:QyD} {w w' w1:World}
def qq (f t:Nat):QyD:=⟨1,(f:Int),(t:Int),[],0,0⟩
section
variable {g:GrD} {f t:Nat} {dir:Int} {d:Nat} {lev:List Int} {fr l:List Nat}
end
end Go.W
namespace Go.W
open Go
variable {B i j k m n n2:Nat} {P:Program} {a a2:Option Addr} {g:GrD} {q:QyD} {w w' w1:World}
section
variable {P:Program} {k:Value->World->Prop} {pn:List PanicEntry->World->Prop} {w:World}
end
end Go.W
namespace Go.W
open Go Go.Proofs
open Enc (enc)
set_option maxRecDepth 10000
variable {B i j k m n n2:Nat} {P:Program} {a a2:Option Addr} {g:GrD} {q:QyD} {w w' w1:World}
theorem rlookV{kt:TypeId}{κ:Type}[DecidableEq κ][M:MKey P kt κ]{k:Value->World->Prop}{pn:List PanicEntry->World->Prop}{t e:TypeId}{z:Value}{sz by':Nat}[ht:MapT P t kt e][he:Elem P e z sz by']{b:Nat}{m:List (κ×Value)}{xv:Value}(h:MapL P kt w b m)(x:κ)(hx:xv=M.val x){y:Value}(hv:(getM m x).getD z=y)(hk:k y w):SemV P (Instr.lookup t (.map (some b)) xv false) k pn w:=
 rlook h x hx (by rw [hv];exact hk)
theorem zD3(a b:List Nat):intsN (a++b)=intsN a++intsN b:=List.map_append
theorem zBy(a:List Nat):(intsN a).length=a.length:=List.length_map ..
theorem zF8{l:List Nat}(h:k<l.length):(intsN l)[k]? = some ((l[k]:Nat):Int):=by simp [intsN,h]
theorem nb_len(hg:GrIs g)(dir:Int)(v:Nat):(nbL g dir v).length<=1000000:=by
 have:=hg.rowI.len
 unfold nbL
 split
 ·rw [List.length_map];have:=List.length_filter_le (λe=>e.t==v) g.es;omega
 ·rw [List.length_map];have:=List.length_filter_le (λe=>e.f==v) g.es;omega

theorem zBR{x:RCfg}{im:List UInt8}{c:Nat}{l:List REv}(h:SlF w (.slice a n c) l):
  Sp PP F.ps #[agg x,txt im,.slice a n c] w λv w'=>(v=.bool false\/(v=.bool true/\l.length<=80/\∀y∈l,y.frame.length<=300))/\Stp w w':=by
 have q_:=h.len
 obtain rfl:=q_
 refine en TBok rfl ?_
 refine rbx λb w1 n1 B1=>?_
 have B1:Bk w1 b (enc x) E.qy:=B1
 refine cnt TBok 8 [6] 7 l.length (λk u=>(∀y∈l.take k,y.frame.length<=300)/\Stp w1 u) rfl rfl ⟨by simp,stp⟩ ?_
 rintro k g u hk ⟨hm,su⟩
 have fin:(l.length<=80->k=l.length)->∀u,Stp w u->l.length<=80->(Value.bool true=Value.bool false\/(Value.bool true=Value.bool true/\l.length<=80/\∀y∈l,y.frame.length<=300))/\Stp w u:=λhf u hu h8=>by
  have h1:=hf h8
  rw [h1,List.take_length] at hm
  exact⟨.inr ⟨rfl,h8,hm⟩,hu⟩
 refine ite (λhlt=>?_) (λhge=>?_)
 ·refine ite (λh2=>?_) (λh2=>?_)
  ·have hk1:k<l.length:=by omega
   have hi:l[k]? = some l[k]:=by simp
   refine rix (i:=k) (h.up (w':=u)) hi λb2 o2 A2=>rload1 (A2.cell 1 rfl) (ite (λh3=>?_) (λh3=>?_))
   ·exact⟨.inl rfl,stp⟩
   ·refine rix (i:=k) (h.up (w':=u)) hi λb3 o3 A3=>rload1 (A3.cell 2 rfl) ?_
    have h3:¬(300:Int)<(l[k].frame.length:Int):=h3
    refine ite (λh4=>?_) (λh4=>?_)
    ·exact⟨.inl rfl,stp⟩
    ·refine rA ⟨rfl,hk1,λy hy=>?_,stp⟩
     rw [zAa hk1] at hy
     have q_:=List.mem_append.1 hy
     rcases q_ with h5|h5
     ·exact hm y h5
     ·rw [List.mem_singleton.1 h5];omega
  ·refine iF h2 ?_
   exact⟨.inl rfl,stp⟩
 ·refine ite (λh5=>?_) (λh5=>?_)
  ·have h8:l.length<=80:=by omega
   refine ite (λh6=>?_) (λh6=>?_)
   ·refine rld (B:=B1.mv (w:=u)) rfl (ite (λh7=>?_) (λh7=>?_))
    ·exact fin (λ_=>by omega) _ stp h8
    ·exact⟨.inl rfl,stp⟩
   ·exact⟨.inl rfl,stp⟩
  ·exact⟨.inl rfl,stp⟩
theorem zAs:Sp PP F.zz #[] w λv w'=>v=.bool true/\Stp w w':=by
 refine en TBok rfl ?_
 refine rbuild (cs:=enc (⟨1,1,1,9,9⟩:RCfg)) rfl ?_
 have hc:cfgOk ⟨1,1,1,9,9⟩:=by unfold cfgOk;decide
 refine rcall (zIH (x:=⟨1,1,1,9,9⟩) (f:=im0) (by decide) hc im0_g) ?_
 rintro _ w2 ⟨⟨bs,rfl,S2⟩,e2⟩
 have hcf:cfOf ⟨1,1,1,9,9⟩=c0:=rfl
 rw [hcf] at S2
 have z2:=e2.e.size
 refine rpnil (iF (· rfl) ?_)
 have D3:=zDA (f:=[7,1,0,1]) S2 z2 (by decide)
 rw [come7] at D3
 refine rcall D3 ?_
 rintro _ w3 ⟨rfl,S3,f3⟩
 have z3:=f3.size
 have t3:Stw w w2 w3:=S2.stw f3 (Nat.le_refl _)
 have D5:=zB0 (ps:=[]) S3 (by omega) λu _=>SlF.nil u
 rw [tick7a] at D5
 refine rcall D5 ?_
 rintro _ w5 ⟨R5,O5,_,S5,_,f5⟩
 have z5:=f5.size
 have t5:Stw w w3 w5:=S3.stw f5 (Nat.le_refl _)
 have D6:=zB0 (ps:=[]) S5 (by omega) λu _=>SlF.nil u
 rw [tick7b] at D6
 refine rcall D6 ?_
 rintro _ w6 ⟨R6,O6,hoff,S6,_,f6⟩
 have z6:=f6.size
 have t6:Stw w w5 w6:=S5.stw f6 (Nat.le_refl _)
 have q_:=O5.shape
 obtain⟨a5,c5,rfl⟩:=q_
 have q_:=O6.shape
 obtain⟨a6,c6,rfl⟩:=q_
 refine iT (by simp) (iT (by simp) (rix (i:=0) O6.sl (x:=bsOf [7,0,1,1,0]) rfl λb9 o9 A9=>rload1 (A9.cell0 rfl) (rseq (λ_=>?_) (λh=>absurd rfl h))))
 exact⟨rfl,stp⟩
theorem RowO.f{x:RRow}{r:List EdN}(h:RowO B w x g r):RwF w x g r:=⟨h.rev',h.off.sl,h.to.sl,h.rof.sl,h.rev.sl⟩
end Go.W
namespace Go.W
open Go
set_option maxRecDepth 10000
variable {B i j k m n n2:Nat} {P:Program} {a a2:Option Addr} {g:GrD} {q:QyD} {w w' w1:World}
def WD (g:GrD) (dir:Int) (k h v:Nat):Prop:=if dir=1 then Wlk g k v h else Wlk g k h v
section
variable {g:GrD} {dir:Int} {h:Nat}
theorem WD.zero{v:Nat}:WD g dir 0 h v↔h=v:=by
 unfold WD;split
 ·exact⟨λe:v=h=>e.symm,λe=>e.symm⟩
 ·exact Iff.rfl
theorem WD.step{v w:Nat}(hd:dir=0\/dir=1)(e:WD g dir k h v)(hw:w∈nbL g dir v):WD g dir (k+1) h w:=by
 unfold WD at *
 rcases hd with rfl|rfl
 ·rw [if_neg (by decide)] at *
  exact e.app (Wlk.one.2 (zFo.1 hw))
 ·rw [if_pos rfl] at *
  rw [Nat.add_comm]
  exact(Wlk.one.2 (zFp.1 hw)).app e
def Gd (g:GrD) (dir:Int) (h:Nat) (P:Nat->Nat->Prop):Nat->Nat->Prop
 |v,0=>h=v/\¬P v 0
 |v,k+1=>WD g dir (k+1) h v/\(∀j,j<k+1->¬WD g dir j h v)/\¬P v (k+1)/\∃u,v∈nbL g dir u/\Gd g dir h P u k
theorem Gd.wd{P:Nat->Nat->Prop}{v:Nat}(G:Gd g dir h P v k):WD g dir k h v/\(∀j,j<k->¬WD g dir j h v)/\¬P v k:=by
 cases k with
 |zero=>exact⟨WD.zero.2 G.1,λj hj=>by omega,G.2⟩
 |succ k=>exact⟨G.1,G.2.1,G.2.2.1⟩
structure SrI (g:GrD) (dir:Int) (h:Nat) (P:Nat->Nat->Prop) (d:Nat) (seen:List Bool) (fr:List Nat) (A:Nat->Option Nat) (Sl:List Nat):Prop where
 len:seen.length=g.n
 sl:∀v,v<g.n->(seen[v]? = some true↔v∈Sl)
 nd:Sl.Nodup
 lt:∀v∈Sl,v<g.n
 fnd:fr.Nodup
 fs:∀v∈fr,v∈Sl/\WD g dir d h v/\A v=none
 wd:∀v∈Sl,∃j,j<=d/\WD g dir j h v
 add:∀v j,A v=some j->j<d/\j<g.n/\v∈Sl/\WD g dir j h v
 cnt:d+fr.length<=Sl.length
 cmp:∀v k,Gd g dir h P v k->(k<d->A v=some k)/\(k=d->v∈fr)
structure SrM (g:GrD) (dir:Int) (h:Nat) (P:Nat->Nat->Prop) (d:Nat) (seen:List Bool) (fr:List Nat) (A0:Nat->Option Nat) (Sl Q l:List Nat) (A:Nat->Option Nat):Prop where
 len:seen.length=g.n
 sl:∀v,v<g.n->(seen[v]? = some true↔v∈Sl\/v∈l)
 lnd:l.Nodup
 lo:∀w∈l,w∉Sl/\w<g.n/\WD g dir (d+1) h w
 at':∀v,(v∈Q->¬P v d->A v=some d)/\(v∈Q->P v d->A v=A0 v)/\(v∉Q->A v=A0 v)
 nb:∀v∈Q,¬P v d->∀w∈nbL g dir v,w∈Sl\/w∈l
variable {P:Nat->Nat->Prop} {d:Nat} {seen:List Bool} {fr Sl Q l:List Nat} {A A0:Nat->Option Nat}
theorem SrI.first(hh:h<g.n):SrI g dir h P 0 ((List.replicate g.n false).set h true) [h] (λ_=>none) [h]:=by
 refine⟨by simp,λv hv=>?_,by simp,λv hv=>?_,by simp,λv hv=>?_,λv hv=>?_,(λv j e=>nomatch e),by simp,λv k G=>⟨λhk=>by omega,λhk=>?_⟩⟩
 ·rw [List.getElem?_set,List.mem_singleton]
  by_cases e:h=v
  ·subst e;simp [hv]
  ·rw [if_neg e,List.getElem?_replicate,if_pos hv]
   exact⟨(λh=>nomatch h),λe'=>absurd e'.symm e⟩
 ·rw [List.mem_singleton.1 hv];exact hh
 ·rw [List.mem_singleton.1 hv];exact⟨by simp,WD.zero.2 rfl,rfl⟩
 ·rw [List.mem_singleton.1 hv];exact⟨0,Nat.le_refl _,WD.zero.2 rfl⟩
 ·subst hk;rw [List.mem_singleton];exact G.1.symm
theorem SrI.begin(I:SrI g dir h P d seen fr A Sl):SrM g dir h P d seen fr A Sl [] [] A:=
 ⟨I.len,λv hv=>by rw [I.sl v hv];simp,List.nodup_nil,(λw hw=>nomatch hw),λv=>⟨(λhv=>nomatch hv),(λhv=>nomatch hv),λ_=>rfl⟩,(λv hv=>nomatch hv)⟩
theorem SrI.small(I:SrI g dir h P d seen fr A Sl)(hf:fr≠[]):d<g.n:=by
 have h1:=zCL I.nd I.lt
 have h2:=I.cnt
 have h3:=List.length_pos_iff.2 hf
 omega
theorem SrM.skip(M:SrM g dir h P d seen fr A0 Sl Q l A){v:Nat}(hv:v∉Q)(hp:P v d):SrM g dir h P d seen fr A0 Sl (Q++[v]) l A:=by
 refine⟨M.len,M.sl,M.lnd,M.lo,λu=>?_,λu hu hn w hw=>?_⟩
 ·have q_:=M.at' u
  obtain⟨h1,h2,h3⟩:=q_
  refine⟨λhu hn=>?_,λhu hn=>?_,λhu=>h3 λh=>hu (List.mem_append_left _ h)⟩
  ·have q_:=List.mem_append.1 hu
   rcases q_ with hu|hu
   ·exact h1 hu hn
   ·rw [List.mem_singleton.1 hu] at hn;exact absurd hp hn
  ·have q_:=List.mem_append.1 hu
   rcases q_ with hu|hu
   ·exact h2 hu hn
   ·rw [List.mem_singleton.1 hu] at h3 ⊢;exact h3 hv
 ·have q_:=List.mem_append.1 hu
  rcases q_ with hu|hu
  ·exact M.nb u hu hn w hw
  ·rw [List.mem_singleton.1 hu] at hn;exact absurd hp hn
structure SrN (g:GrD) (dir:Int) (h:Nat) (P:Nat->Nat->Prop) (d:Nat) (seen:List Bool) (fr:List Nat) (A0:Nat->Option Nat) (Sl Q R l:List Nat) (A:Nat->Option Nat):Prop extends SrM g dir h P d seen fr A0 Sl Q l A where
 r:∀w∈R,w∈Sl\/w∈l
theorem SrM.on(M:SrM g dir h P d seen fr A0 Sl Q l A):SrN g dir h P d seen fr A0 Sl Q [] l A:=⟨M,λw hw=>nomatch hw⟩
theorem SrN.old{R:List Nat}(N:SrN g dir h P d seen fr A0 Sl Q R l A){w:Nat}(hw:w<g.n)(hs:seen[w]? = some true):SrN g dir h P d seen fr A0 Sl Q (R++[w]) l A:=
 ⟨N.toSrM,λu hu=>by
  have q_:=List.mem_append.1 hu
  rcases q_ with hu|hu
  ·exact N.r u hu
  ·rw [List.mem_singleton.1 hu];exact(N.sl w hw).1 hs⟩
theorem SrN.new{R:List Nat}(N:SrN g dir h P d seen fr A0 Sl Q R l A){w:Nat}(hw:w<g.n)(hs:seen[w]?≠some true)(hd:WD g dir (d+1) h w):SrN g dir h P d (seen.set w true) fr A0 Sl Q (R++[w]) (l++[w]) A:=by
 have h0:=λh'=>hs ((N.sl w hw).2 h')
 refine⟨⟨by rw [List.length_set];exact N.len,λv hv=>?_,?_,λv hv=>?_,N.at',λv hv hn u hu=>?_⟩,λu hu=>?_⟩
 ·rw [List.getElem?_set,List.mem_append]
  by_cases e:w=v
  ·subst e
   rw [if_pos rfl,if_pos (by rw [N.len];exact hw)]
   simp
  ·rw [if_neg e,N.sl v hv]
   have:¬v=w:=λh=>e h.symm
   simp [this]
 ·rw [List.nodup_append]
  refine⟨N.lnd,by simp,λa ha b hb e=>?_⟩
  rw [List.mem_singleton.1 hb] at e
  exact h0 (.inr (e ▸ ha))
 ·have q_:=List.mem_append.1 hv
  rcases q_ with hv|hv
  ·exact N.lo v hv
  ·rw [List.mem_singleton.1 hv];exact⟨λh=>h0 (.inl h),hw,hd⟩
 ·exact(N.nb v hv hn u hu).imp id (List.mem_append_left _)
 ·have q_:=List.mem_append.1 hu
  rcases q_ with hu|hu
  ·exact(N.r u hu).imp id (List.mem_append_left _)
  ·rw [List.mem_singleton.1 hu];exact .inr (by simp)
theorem SrN.done{v:Nat}{B:Nat->Option Nat}(N:SrN g dir h P d seen fr A0 Sl Q (nbL g dir v) l A)(hv:v∉Q)(hp:¬P v d)(hB:∀u,B u=if u=v then some d else A u):SrM g dir h P d seen fr A0 Sl (Q++[v]) l B:=by
 refine⟨N.len,N.sl,N.lnd,N.lo,λu=>?_,λu hu hn w hw=>?_⟩
 ·have q_:=N.at' u
  obtain⟨h1,h2,h3⟩:=q_
  rw [hB]
  by_cases e:u=v
  ·subst e
   rw [if_pos rfl]
   exact⟨λ_ _=>rfl,λ_ hn=>absurd hn hp,λhu=>absurd (List.mem_append_right _ (by simp)) hu⟩
  ·rw [if_neg e]
   have hm:u∈Q++[v]↔u∈Q:=by rw [List.mem_append,List.mem_singleton];exact⟨λh=>h.elim id λh=>absurd h e,.inl⟩
   rw [hm]
   exact⟨h1,h2,h3⟩
 ·have q_:=List.mem_append.1 hu
  rcases q_ with hu|hu
  ·exact N.nb u hu hn w hw
  ·rw [List.mem_singleton.1 hu] at hw;exact N.r w hw
theorem SrM.next{seen0:List Bool}(I:SrI g dir h P d seen0 fr A0 Sl)(M:SrM g dir h P d seen fr A0 Sl fr l A)(hf:fr≠[]):SrI g dir h P (d+1) seen l A (Sl++l):=by
 have hdn:=I.small hf
 refine⟨M.len,λv hv=>by rw [M.sl v hv,List.mem_append],?_,λv hv=>?_,M.lnd,λv hv=>?_,λv hv=>?_,λv j e=>?_,?_,λv k G=>⟨λhk=>?_,λhk=>?_⟩⟩
 ·rw [List.nodup_append]
  exact⟨I.nd,M.lnd,λa ha b hb e=>(M.lo b hb).1 (e ▸ ha)⟩
 ·have q_:=List.mem_append.1 hv
  rcases q_ with hv|hv
  ·exact I.lt v hv
  ·exact(M.lo v hv).2.1
 ·have q_:=M.lo v hv
  obtain⟨h1,h2,h3⟩:=q_
  refine⟨List.mem_append_right _ hv,h3,?_⟩
  have hvf:v∉fr:=λh=>h1 (I.fs v h).1
  rw [(M.at' v).2.2 hvf]
  cases e:A0 v with
  |none=>rfl
  |some j=>exact absurd (I.add v j e).2.2.1 h1
 ·have q_:=List.mem_append.1 hv
  rcases q_ with hv|hv
  ·have q_:=I.wd v hv
   obtain⟨j,h1,h2⟩:=q_
   exact⟨j,by omega,h2⟩
  ·exact⟨d+1,Nat.le_refl _,(M.lo v hv).2.2⟩
 ·by_cases hvf:v∈fr
  ·have q_:=I.fs v hvf
   obtain⟨h1,h2,h3⟩:=q_
   by_cases hp:P v d
   ·rw [(M.at' v).2.1 hvf hp,h3] at e;cases e
   ·rw [(M.at' v).1 hvf hp] at e
    cases e
    exact⟨by omega,hdn,List.mem_append_left _ h1,h2⟩
  ·rw [(M.at' v).2.2 hvf] at e
   have q_:=I.add v j e
   obtain⟨h1,h2,h3,h4⟩:=q_
   exact⟨by omega,h2,List.mem_append_left _ h3,h4⟩
 ·have h1:=I.cnt
  have h2:=List.length_pos_iff.2 hf
  rw [List.length_append];omega
 ·have hc:=I.cmp v k G
  have q_:=Nat.lt_or_ge k d
  rcases q_ with h1|h1
  ·have h2:=hc.1 h1
   have hvf:v∉fr:=λh=>by rw [(I.fs v h).2.2] at h2;cases h2
   rw [(M.at' v).2.2 hvf];exact h2
  ·have hkd:k=d:=by omega
   subst hkd
   exact(M.at' v).1 (hc.2 rfl) G.wd.2.2
 ·subst hk
  obtain⟨h1,h2,h3,u,h4,h5⟩:=G
  have hu:=(I.cmp u d h5).2 rfl
  have h6:=M.nb u hu h5.wd.2.2 v h4
  rcases h6 with h6|h6
  ·have q_:=I.wd v h6
   obtain⟨j,h7,h8⟩:=q_
   exact absurd h8 (h2 j (by omega))
  ·exact h6
structure SrD (g:GrD) (dir:Int) (h:Nat) (P:Nat->Nat->Prop) (A:Nat->Option Nat):Prop where
 add:∀v j,A v=some j->v<g.n/\j<g.n/\WD g dir j h v
 cmp:∀v k,Gd g dir h P v k->A v=some k
theorem Gd.down{v : Nat} : ∀ {k : Nat}, Gd g dir h P v k -> ∀ j, j <= k -> ∃ u, Gd g dir h P u j
  | 0, G, j, hj => ⟨v, by have : j = 0 := by omega
                          subst this; exact G⟩
  | k + 1, G, j, hj => by
    have q_ := Nat.lt_or_ge j (k + 1)
    rcases q_ with h1 | h1
    · obtain ⟨_, _, _, u, _, h5⟩ := G
      exact Gd.down h5 j (by omega)
    · have : j = k + 1 := by omega
      subst this; exact ⟨v, G⟩
theorem SrI.done(I:SrI g dir h P d seen [] A Sl):SrD g dir h P A:=by
 refine⟨λv j e=>?_,λv k G=>?_⟩
 ·have q_:=I.add v j e
  obtain⟨_,h2,h3,h4⟩:=q_
  exact⟨I.lt v h3,h2,h4⟩
 ·have q_:=Nat.lt_or_ge k d
  rcases q_ with h1|h1
  ·exact(I.cmp v k G).1 h1
  ·have q_:=G.down d h1
   obtain⟨u,hu⟩:=q_
   exact absurd ((I.cmp u d hu).2 rfl) (by simp)
end
structure LeaR (a b:List HitD) (n:Int) (ok:Bool):Prop where
 no:ok=false->n=0/\∀x∈a,∀y∈b,x.v≠y.v
 yes:ok=true->(∃x∈a,∃y∈b,x.v=y.v/\n=x.d+y.d)/\∀x∈a,∀y∈b,x.v=y.v->n<=x.d+y.d
def Lea (a b:List HitD) (d:Nat):Prop:=∃x∈a,∃y∈b,x.v=y.v/\x.d+y.d<=(d:Int)
theorem LeaR.iff{a b:List HitD}{n:Int}{ok:Bool}(h:LeaR a b n ok)(d:Nat):(ok=true/\n<=(d:Int))↔Lea a b d:=by
 constructor
 ·rintro⟨h1,h2⟩
  have q_:=h.yes h1
  obtain⟨⟨x,hx,y,hy,e,h3⟩,_⟩:=q_
  exact⟨x,hx,y,hy,e,by omega⟩
 ·rintro⟨x,hx,y,hy,e,h3⟩
  cases ok with
  |false=>exact absurd e ((h.no rfl).2 x hx y hy)
  |true=>exact⟨rfl,by have:=(h.yes rfl).2 x hx y hy e;omega⟩
def OnW (g:GrD) (u x v:Nat):Prop:=∃a b,Wlk g a u x/\Wlk g b x v/\Dst g u v (a+b)
structure LabI (g:GrD) (hs:List Nat) (Out In:Nat->List HitD):Prop where
 so:∀u,∀e∈Out u,∃m d:Nat,e=⟨(m:Int),(d:Int)⟩/\m∈hs/\m<g.n/\d<g.n/\Wlk g d u m
 si:∀v,∀e∈In v,∃m d:Nat,e=⟨(m:Int),(d:Int)⟩/\m∈hs/\m<g.n/\d<g.n/\Wlk g d m v
 no:∀u,((Out u).map (·.v)).Nodup
 ni:∀v,((In v).map (·.v)).Nodup
 co:∀pre m post,hs=pre++m::post->∀u D,Dst g u m D->(∀x∈pre,¬OnW g u x m)->(⟨(m:Int),(D:Int)⟩:HitD)∈Out u
 ci:∀pre m post,hs=pre++m::post->∀v D,Dst g m v D->(∀x∈pre,¬OnW g m x v)->(⟨(m:Int),(D:Int)⟩:HitD)∈In v
def addR (h:Nat) (A:Nat->Option Nat) (F:Nat->List HitD) (v:Nat):List HitD:=match A v with
 |some d=>F v++[⟨(h:Int),(d:Int)⟩]
 |none=>F v
section
variable {g:GrD} {hs:List Nat} {Out In:Nat->List HitD} {h:Nat}
theorem zBW{A:Nat->Option Nat}{F:Nat->List HitD}{v:Nat}{e:HitD}:e∈addR h A F v↔e∈F v\/∃d:Nat,A v=some d/\e=⟨(h:Int),(d:Int)⟩:=by
 unfold addR
 cases A v with
 |none=>simp
 |some d=>simp
theorem zEQ{u v a b D:Nat}(h1:Wlk g a u m)(h2:Wlk g b m v)(hD:Dst g u v D)(hle:a+b<=D):Dst g u m a/\Dst g m v b/\a+b=D:=by
 have e:a+b=D:=by
  have q_:=Nat.lt_or_ge (a+b) D
  rcases q_ with h3|h3
  ·exact absurd (h1.app h2) (hD.2 _ h3)
  ·omega
 refine⟨⟨h1,λj hj hw=>hD.2 (j+b) (by omega) (hw.app h2)⟩,⟨h2,λj hj hw=>hD.2 (a+j) (by omega) (h1.app hw)⟩,e⟩
theorem zJc(I:LabI g hs Out In){u v d:Nat}(h:Lea (Out u) (In v) d):∃m a b,m∈hs/\Wlk g a u m/\Wlk g b m v/\a+b<=d:=by
 obtain⟨x,hx,y,hy,e,h3⟩:=h
 have q_:=I.so u x hx
 obtain⟨m,a,rfl,h4,_,_,h5⟩:=q_
 have q_:=I.si v y hy
 obtain⟨m',b,rfl,_,_,_,h6⟩:=q_
 have:m=m':=by dsimp only at e;omega
 subst this
 exact⟨m,a,b,h4,h5,h6,by dsimp only at h3;omega⟩
theorem gd_in(I:LabI g hs Out In):∀{D v:Nat},Dst g h v D->(∀x∈hs,¬OnW g h x v)->Gd g 0 h (λv d=>Lea (Out h) (In v) d) v D:=by
 have np:∀{v j:Nat},Dst g h v j->(∀x∈hs,¬OnW g h x v)->¬Lea (Out h) (In v) j:=λhD hn hl=>by
  have q_:=zJc I hl
  obtain⟨m,a,b,h1,h2,h3,h4⟩:=q_
  have q_:=zEQ h2 h3 hD h4
  obtain⟨_,_,h7⟩:=q_
  exact hn m h1 ⟨a,b,h2,h3,by rw [h7];exact hD⟩
 intro D
 induction D with
 |zero=>intro v hD hn;exact⟨hD.1,np hD hn⟩
 |succ k ih =>
  intro v hD hn
  have hw:∀j,WD g 0 j h v↔Wlk g j h v:=λj=>by unfold WD;rw [if_neg (by decide)]
  refine⟨(hw _).2 hD.1,λj hj h'=>hD.2 j hj ((hw j).1 h'),np hD hn,?_⟩
  have q_:=Dst.mid (a:=k) (b:=1) hD
  obtain⟨u,h1,h2⟩:=q_
  refine⟨u,zFo.2 (Wlk.one.1 h2.1),ih h1 λx hx=>?_⟩
  rintro⟨a,b,h3,h4,h5⟩
  have hab:=h5.uniq h1
  exact hn x hx ⟨a,b+1,h3,h4.app h2.1,by rw [show a+(b+1)=k+1 by omega];exact hD⟩
theorem gd_out(I:LabI g hs Out In):∀{D u:Nat},Dst g u h D->(∀x∈hs,¬OnW g u x h)->Gd g 1 h (λu d=>Lea (Out u) (In h) d) u D:=by
 have np:∀{v j:Nat},Dst g v h j->(∀x∈hs,¬OnW g v x h)->¬Lea (Out v) (In h) j:=λhD hn hl=>by
  have q_:=zJc I hl
  obtain⟨m,a,b,h1,h2,h3,h4⟩:=q_
  have q_:=zEQ h2 h3 hD h4
  obtain⟨_,_,h7⟩:=q_
  exact hn m h1 ⟨a,b,h2,h3,by rw [h7];exact hD⟩
 intro D
 induction D with
 |zero=>intro v hD hn;exact⟨hD.1.symm,np hD hn⟩
 |succ k ih =>
  intro v hD hn
  have hw:∀j,WD g 1 j h v↔Wlk g j v h:=λj=>by unfold WD;rw [if_pos rfl]
  refine⟨(hw _).2 hD.1,λj hj h'=>hD.2 j hj ((hw j).1 h'),np hD hn,?_⟩
  obtain⟨u,h1,h2⟩:=Dst.mid (a:=1) (b:=k) (by rw [Nat.add_comm];exact hD)
  refine⟨u,zFp.2 (Wlk.one.1 h1.1),ih h2 λx hx=>?_⟩
  rintro⟨a,b,h3,h4,h5⟩
  have hab:=h5.uniq h2
  exact hn x hx ⟨1+a,b,h1.1.app h3,h4,by rw [show 1+a+b=k+1 by omega];exact hD⟩
theorem LabI.nil:LabI g [] (λ_=>[]) (λ_=>[]):=⟨(λu e he=>nomatch he),(λu e he=>nomatch he),λu=>List.nodup_nil,λu=>List.nodup_nil,(λpre m post e=>by simp at e),(λpre m post e=>by simp at e)⟩
theorem zGM{pre post:List Nat}(e:hs++[h]=pre++m::post):(pre=hs/\m=h)\/∃post',hs=pre++m::post':=by
 have q_:=List.eq_nil_or_concat post
 rcases q_ with rfl|⟨p,z,rfl⟩
 ·have:=List.append_inj' e rfl
  exact .inl ⟨this.1.symm,by have:=this.2;injection this with h1;exact h1.symm⟩
 ·right
  refine⟨p,?_⟩
  have e':hs++[h]=(pre++m::p)++[z]:=by rw [e];simp
  exact(List.append_inj' e' rfl).1
theorem LabI.add(I:LabI g hs Out In)(hh:h∉hs)(hhn:h<g.n){A B:Nat->Option Nat}(SI:SrD g 0 h (λv d=>Lea (Out h) (In v) d) A)(SO:SrD g 1 h (λu d=>Lea (Out u) (In h) d) B):LabI g (hs++[h]) (addR h B Out) (addR h A In):=by
 have mem:∀{m:Nat},m∈hs->m∈hs++[h]:=λh=>List.mem_append_left _ h
 have nod:∀(F:Nat->List HitD) (A:Nat->Option Nat),(∀v,((F v).map (·.v)).Nodup)->(∀v,∀e∈F v,e.v≠(h:Int))->∀v,((addR h A F v).map (·.v)).Nodup:=λF A h1 h2 v=>by
  unfold addR
  cases A v with
  |none=>exact h1 v
  |some d =>
   dsimp only
   rw [List.map_append,List.nodup_append]
   refine⟨h1 v,by simp,λa ha b hb e=>?_⟩
   have q_:=List.mem_map.1 ha
   obtain⟨x,hx,rfl⟩:=q_
   simp only [List.map_cons,List.map_nil,List.mem_singleton] at hb
   exact h2 v x hx (e.trans hb)
 refine⟨λu e he=>?_,λv e he=>?_,nod _ _ I.no λv e he=>?_,nod _ _ I.ni λv e he=>?_,λpre m post e u D hD hn=>?_,λpre m post e v D hD hn=>?_⟩
 ·have q_:=zBW.1 he
  rcases q_ with he|⟨d,hd,rfl⟩
  ·have q_:=I.so u e he
   obtain⟨m,d,h1,h2,h3⟩:=q_
   exact⟨m,d,h1,mem h2,h3⟩
  ·have q_:=SO.add u d hd
   obtain⟨h1,h2,h3⟩:=q_
   unfold WD at h3
   rw [if_pos rfl] at h3
   exact⟨h,d,rfl,by simp,hhn,h2,h3⟩
 ·have q_:=zBW.1 he
  rcases q_ with he|⟨d,hd,rfl⟩
  ·have q_:=I.si v e he
   obtain⟨m,d,h1,h2,h3⟩:=q_
   exact⟨m,d,h1,mem h2,h3⟩
  ·have q_:=SI.add v d hd
   obtain⟨h1,h2,h3⟩:=q_
   unfold WD at h3
   rw [if_neg (by decide)] at h3
   exact⟨h,d,rfl,by simp,hhn,h2,h3⟩
 ·have q_:=I.so v e he
  obtain⟨m,d,rfl,h2,_⟩:=q_
  intro e2
  have:m=h:=by dsimp only at e2;omega
  exact hh (this ▸ h2)
 ·have q_:=I.si v e he
  obtain⟨m,d,rfl,h2,_⟩:=q_
  intro e2
  have:m=h:=by dsimp only at e2;omega
  exact hh (this ▸ h2)
 ·have q_:=zGM e
  rcases q_ with ⟨rfl,rfl⟩|⟨post',e'⟩
  ·exact zBW.2 (.inr ⟨D,SO.cmp u D (gd_out I hD hn),rfl⟩)
  ·exact zBW.2 (.inl (I.co pre m post' e' u D hD hn))
 ·have q_:=zGM e
  rcases q_ with ⟨rfl,rfl⟩|⟨post',e'⟩
  ·exact zBW.2 (.inr ⟨D,SI.cmp v D (gd_in I hD hn),rfl⟩)
  ·exact zBW.2 (.inl (I.ci pre m post' e' v D hD hn))
theorem zIX{p:Nat->Prop}:∀{l:List Nat},(∃x∈l,p x)->∃pre m post,l=pre++m::post/\p m/\∀x∈pre,¬p x
 |[],⟨x,hx,_⟩=>nomatch hx
 |y::r,⟨x,hx,hp⟩=>by
  by_cases hy:p y
  ·exact⟨[],y,r,rfl,hy,λx hx=>nomatch hx⟩
  ·have hx:x∈r:=by
    have q_:=List.mem_cons.1 hx
    rcases q_ with rfl|hx
    ·exact absurd hp hy
    ·exact hx
   have q_:=zIX ⟨x,hx,hp⟩
   obtain⟨pre,m,post,rfl,h1,h2⟩:=q_
   exact⟨y::pre,m,post,rfl,h1,λz hz=>by
    have q_:=List.mem_cons.1 hz
    rcases q_ with rfl|hz
    ·exact hy
    ·exact h2 z hz⟩
theorem zN0(I:LabI g hs Out In)(hp:∀v,v<g.n->v∈hs){u v:Nat}(hu:u<g.n){n:Int}{ok:Bool}(R:LeaR (Out u) (In v) n ok):
  (∃L:Nat,Dst g u v L/\ok=true/\n=(L:Int))\/((∀k,¬Wlk g k u v)/\ok=false/\n=0):=by
 by_cases hw:∃k,Wlk g k u v
 ·obtain⟨k,hw⟩:=hw
  have q_:=Dst.ex hw
  obtain⟨D,_,hD⟩:=q_
  left
  obtain⟨pre,m,post,e,⟨a,b,h1,h2,h3⟩,hn⟩:=zIX (p:=λx=>OnW g u x v) ⟨u,hp u hu,0,D,rfl,hD.1,by rw [Nat.zero_add];exact hD⟩
  have hab:=h3.uniq hD
  have q_:=zEQ h1 h2 hD (by omega)
  obtain⟨d1,d2,_⟩:=q_
  have m1:=I.co pre m post e u a d1 λx hx=>by
   rintro⟨i,j,h4,h5,h6⟩
   have:=h6.uniq d1
   exact hn x hx ⟨i,j+b,h4,h5.app h2,by rw [show i+(j+b)=D by omega];exact hD⟩
  have m2:=I.ci pre m post e v b d2 λx hx=>by
   rintro⟨i,j,h4,h5,h6⟩
   have:=h6.uniq d2
   exact hn x hx ⟨a+i,j,h1.app h4,h5,by rw [show a+i+j=D by omega];exact hD⟩
  have hok:ok=true:=by
   cases ok with
   |true=>rfl
   |false=>exact((R.no rfl).2 (⟨(m:Int),(a:Int)⟩:HitD) m1 (⟨(m:Int),(b:Int)⟩:HitD) m2 rfl).elim
  refine⟨D,hD,hok,?_⟩
  have q_:=R.yes hok
  obtain⟨⟨x,hx,y,hy,e2,h4⟩,h5⟩:=q_
  have h6:=h5 _ m1 _ m2 rfl
  dsimp only at h6
  have q_:=I.so u x hx
  obtain⟨m3,i,rfl,_,_,_,h7⟩:=q_
  have q_:=I.si v y hy
  obtain⟨m4,j,rfl,_,_,_,h8⟩:=q_
  have h9:m3=m4:=by dsimp only at e2;omega
  subst h9
  dsimp only at h4
  have h10:D<=i+j:=by
   have q_:=Nat.lt_or_ge (i+j) D
   rcases q_ with h|h
   ·exact absurd (h7.app h8) (hD.2 _ h)
   ·exact h
  omega
 ·right
  have hn:∀k,¬Wlk g k u v:=λk h=>hw ⟨k,h⟩
  have hok:ok=false:=by
   cases ok with
   |false=>rfl
   |true =>
    have q_:=R.yes rfl
    obtain⟨⟨x,hx,y,hy,e2,_⟩,_⟩:=q_
    have q_:=I.so u x hx
    obtain⟨m3,i,rfl,_,_,_,h7⟩:=q_
    have q_:=I.si v y hy
    obtain⟨m4,j,rfl,_,_,_,h8⟩:=q_
    have h9:m3=m4:=by dsimp only at e2;omega
    subst h9
    exact absurd (h7.app h8) (hn _)
  exact⟨hn,hok,(R.no hok).1⟩
end
end Go.W
namespace Go.W
open Go
open Enc (enc)
variable {B i j k m n n2:Nat} {P:Program} {a a2:Option Addr} {g:GrD} {q:QyD} {w w' w1:World}
section
variable {α:Type} [Enc α] {P:Program} {k:Value->World->Prop} {pn:List PanicEntry->World->Prop} {w:World}
theorem zNH{t ty e:TypeId}{z:Value}{sz by':Nat}(ht:SlT P t e)(he:Elem P e z sz by')(hsz:Enc.sz α=sz){v x:Value}{l m:List α}
  (hO:Own B e w v l)(hS:SlF w x m)(hne:m≠[])(hb:(l.length+m.length)*by'<=140737488355328)(hm:l.length+m.length<=maxLen){v':Value}(h:(Builtin.append_ #[t,t] ty #[v,x]).run P w=.ok v' w'):
  Value.blk v'=Value.blk v\/(Value.blk v'=some w.heap.size/\Ext w w'):=by
 obtain⟨i,hi,hz,hs,hby⟩:=info_parts he.h
 subst hsz
 obtain⟨xa,xc,rfl,hxc,hx⟩:=hS
 rcases hx with hx|⟨b,o,rfl,hat⟩
 ·exact absurd hx hne
 have hnews:∀j u,(flat m)[j]? = some u->w.cell? ((⟨b,o,none⟩:Addr).add j)=some u:=λj u hj=>by rw [zAv];exact hat j u hj
 have hl:(flat m).length=m.length*Enc.sz α:=zAm m
 have hpos:0<m.length:=List.length_pos_iff.2 hne
 have hml:m.length<=maxLen:=by omega
 have ed:Ext w w.drew:=⟨rfl,rfl,rfl,Nat.le_refl _,λ_ _ _=>rfl,λ_ _ h _=>h⟩
 have nil:(Builtin.append_ #[t,t] ty #[.slice none 0 0,.slice (some ⟨b,o,none⟩) m.length xc]).run P w=.ok v' w'->l.length=0->Value.blk v'=some w.heap.size/\Ext w w':=λh h0=>by
  have hr:=run_append_nil (P:=P) w t ty e i z ht.h hi hz ⟨b,o,none⟩ m.length xc (flat m) (by rw [hl,hs]) hnews (by omega) (by simp only [maxLen] at hm;omega) (by rw [hby];have hb:=hb;rw [h0,Nat.zero_add] at hb;omega)
  rw [hr] at h;cases h;exact⟨rfl,ed.t (Ext.alloc w.drew _)⟩
 have grow:∀(a:Addr) (n cap:Nat) (xs:List Value),xs.length=n*i.size->(∀j u,xs[j]? = some u->w.cell? (a.add j)=some u)->cap<n+m.length->n=l.length ->
   (Builtin.append_ #[t,t] ty #[.slice (some a) n cap,.slice (some ⟨b,o,none⟩) m.length xc]).run P w=.ok v' w'->Value.blk v'=some w.heap.size/\Ext w w':=λa n cap xs h1 h2 h3 h4 h=>by
  subst h4
  have hr:=run_append_grow (P:=P) w t ty e i z ht.h hi hz a l.length cap xs h1 h2 ⟨b,o,none⟩ m.length xc (flat m) (by rw [hl,hs]) hnews (by omega) (by simp only [maxLen] at hm;omega)
   (by rw [hby];exact growslice_fits (by omega) hb)
  rw [hr] at h;cases h;exact⟨rfl,ed.t (Ext.alloc w.drew _)⟩
 rcases hO with ⟨rfl,a,rfl⟩|hO
 ·cases a with
  |none=>exact .inr (nil h rfl)
  |some a=>exact .inr (grow a 0 0 [] (by simp) (by simp) (by omega) rfl h)
 ·rcases hO.2 with ⟨rfl,hn⟩|⟨g,cap,cur,rfl,hbg,hg,hnc,hcm,hcs,htake⟩
  ·exact .inr (nil h hn)
  ·by_cases hroom:l.length+m.length<=cap
   ·left
    have hfit:l.length*i.size+(flat m).length<=cur.size:=by rw [hl,hcs,hs,<-Nat.add_mul];exact Nat.mul_le_mul_right _ hroom
    have hr:=run_append_room (P:=P) w t ty e i ht.h hi g l.length cap cur hg ⟨b,o,none⟩ m.length xc (flat m) (by rw [hl,hs]) hnews (zBS m) hroom hfit
    rw [hr] at h;cases h;rfl
   ·exact .inr (grow ⟨g,0,none⟩ l.length cap (flat l) (by rw [zAm,hs]) (λj u hj=>(hO.cells (g:=g) rfl) j u hj) (by omega) rfl h)
theorem rappX{t ty e:TypeId}{z:Value}{sz by':Nat}[ht:SlT P t e][he:Elem P e z sz by']{v x:Value}{l m:List α}(hsz:Enc.sz α=sz/\z.cells.size=sz)
  (hO:Own B e w v l)(hS:SlF w x m)(hne:m≠[])(hB:B<=w.heap.size)(hb:(l.length+m.length)*by'<=140737488355328/\l.length+m.length<=9223372036854775807)
  (hk:∀v' w',Own B e w' v' (l++m)->Fr (ownD B v) w w'->(Value.blk v'=Value.blk v\/(Value.blk v'=some w.heap.size/\Ext w w'))->k v' w'):SemV P (Builtin.append_ #[t,t] ty #[v,x]) k pn w:=by
 obtain⟨v',w',h1,h2,h3⟩:=zFs (ty:=ty) ht he hsz.1 hsz.2 hO hS hb.1 (by unfold maxLen;omega) hB
 exact SemV.of h1 (hk _ _ h2 h3 (zNH ht he hsz.1 hO hS hne hb.1 (by unfold maxLen;omega) h1))
end
end Go.W
namespace Go.W
open Go Go.Proofs
open Enc (enc)
set_option maxRecDepth 10000
variable {B i j k m n n2:Nat} {P:Program} {a a2:Option Addr} {g:GrD} {q:QyD} {w w' w1:World}
abbrev RepM (w:World) (x:RepD) (r:RepL):Prop:=x.id=r.id/\x.code=r.code/\x.a.found=r.found/\x.a.num=r.num/\SlY E.qe w (.slice x.a.s.a x.a.s.n x.a.s.c) r.hits
def RX (w:World) (s:ByteArray) (q:RepD) (odd:Bool):Prop:=(odd=false/\∃r,getR s.data.toList=some r/\RepM w q r)\/(odd=true/\getR s.data.toList=none)
theorem SlY.fro{α β:Type}[Enc α][Enc β]{e e':TypeId}{v v':Value}{l:List α}{l':List β}(h:SlY e w v l)(k:Own B e' w v' l')(f:Fr (ownD B v') w w')(hne:e≠e'):SlY e w' v l:=
 h.fr f (λb cs z hb hc hD=>by
  obtain⟨h1,h2,h3⟩:=hD
  rcases k with ⟨_,a,rfl⟩|k
  ·exact h3 a rfl
  ·have q_:=k.2
   rcases q_ with ⟨rfl,_⟩|⟨g,cap,cur,rfl,_,hg,_⟩
   ·exact h3 none rfl
   ·have:g=b:=by simpa [Value.blk] using h2
    subst this
    rw [hg] at hc;cases hc;exact hne rfl)
end Go.W
namespace Go.W
open Go
set_option maxRecDepth 10000
variable {B i j k m n n2:Nat} {P:Program} {a a2:Option Addr} {g:GrD} {q:QyD} {w w' w1:World}
section
variable {g:GrD} {f t n:Nat} {seen:List Bool} {fr l P:List Nat}
end
end Go.W
namespace Go.W
open Go Go.Proofs
open Enc (enc)
set_option maxRecDepth 10000
variable {B i j k m n n2:Nat} {P:Program} {a a2:Option Addr} {g:GrD} {q:QyD} {w w' w1:World}

theorem SlF.blt{α:Type}[Enc α]{v:Value}{l:List α}(h:SlF w v l)(hl:l≠[]){g:Nat}(hg:Value.blk v=some g):g<w.heap.size:=by
 have q_:=h.lt hl
 obtain⟨g',h1,h2⟩:=q_
 rw [hg] at h1;cases h1;exact h2
theorem zNm{seen:List Bool}{z:Nat}(hz:z<seen.length):∃b,seen[z]? = some b:=⟨_,List.getElem?_eq_getElem hz⟩
structure LabM (B bl n:Nat) (gb:Bool->Nat) (X:Bool->List SV) (L:Bool->Nat->List HitD) (w:World):Prop where
 lo:B<=bl
 cell:Bk w bl [.slice (some ⟨gb true,0,none⟩) n n,.slice (some ⟨gb false,0,none⟩) n n] E.qs
 row:∀s,Own B E.qo w (.slice (some ⟨gb s,0,none⟩) n n) (X s)
 len:∀s,(X s).length=n
 gne:gb true≠gb false
 own:∀s (v:Nat) (z:SV),(X s)[v]? = some z->Own B E.qe w z.v (L s v)
 lt:∀s (v:Nat) (z:SV) b,(X s)[v]? = some z->Value.blk z.v=some b->b<w.heap.size
 apart:∀s (v:Nat) (z:SV) s' (v':Nat) (z':SV),(X s)[v]? = some z->(X s')[v']? = some z'->(s,v)≠(s',v')->∀b,Value.blk z.v=some b->Value.blk z'.v≠some b
abbrev gX (gb:Bool->Nat):Nat->Prop:=λi=>i=gb true\/i=gb false
abbrev hE:List TypeId:=[E.qe]
section
variable {B bl n:Nat} {gb:Bool->Nat} {X:Bool->List SV} {L:Bool->Nat->List HitD} {w w':World}
theorem LabM.kept{C:Nat}{es:List TypeId}(M:LabM B bl n gb X L w)(f:FrT C es w w')(h1:E.qs∉es)(h2:E.qo∉es)(h3:E.qe∉es):LabM B bl n gb X L w':=
 ⟨M.lo,M.cell.kept f h1,λs=>(M.row s).kept f h2,M.len,M.gne,λs v z h=>(M.own s v z h).kept f h3,λs v z b h hb=>Nat.lt_of_lt_of_le (M.lt s v z b h hb) f.size,M.apart⟩
theorem LabM.up[Le w w'](M:LabM B bl n gb X L w):LabM B bl n gb X L w':=M.kept (C:=0) (es:=[]) (FrT.ext Le.e) (by simp) (by simp) (by simp)
theorem LabM.gx(M:LabM B bl n gb X L w)(s:Bool)(hn:0<n):gb s<w.heap.size/\B<=gb s:=by
 obtain⟨b,h1,h2,h3⟩:=(M.row s).lt (by intro h;have:=M.len s;rw [h] at this;simp at this;omega)
 have:=Option.some.inj h1
 simp only at this
 subst this
 exact⟨h3,h2⟩
structure CapM (X:Bool->List SV) (s:Bool) (h:Nat) (c:SV) (l:List HitD) (w:World):Prop where
 sl:SlY E.qe w c.v l
 ap:l≠[]->∀b,Value.blk c.v=some b->∀s' (v':Nat) (z':SV),(X s')[v']? = some z'->(s',v')≠(s,h)->Value.blk z'.v≠some b
theorem CapM.kept{C:Nat}{es:List TypeId}{s:Bool}{h:Nat}{c:SV}{l:List HitD}(M:CapM X s h c l w)(f:FrT C es w w')(h3:E.qe∉es):CapM X s h c l w':=⟨M.sl.kept f h3,M.ap⟩
theorem LabM.cap(M:LabM B bl n gb X L w){s:Bool}{v:Nat}{z:SV}(h:(X s)[v]? = some z):CapM X s v z (L s v) w:=
 ⟨(M.own s v z h).y,λ_ b hb s' v' z' h' hne=>M.apart s v z s' v' z' h h' (λe=>hne e.symm) b hb⟩
def setX (X:Bool->List SV) (s:Bool) (v:Nat) (z:SV):Bool->List SV:=λs'=>if s'=s then (X s).set v z else X s'
def setL (L:Bool->Nat->List HitD) (s:Bool) (v:Nat) (l:List HitD):Bool->Nat->List HitD:=λs' v'=>if (s',v')=(s,v) then l else L s' v'
theorem zDC{s:Bool}{v:Nat}{z:SV}(hv:v<(X s).length):(setX X s v z s)[v]? = some z:=by unfold setX;rw [if_pos rfl];simp [hv]
theorem zBG{s s':Bool}{v v':Nat}{z:SV}(h:(s',v')≠(s,v)):(setX X s v z s')[v']? = (X s')[v']?:=by
 unfold setX
 by_cases e:s'=s
 ·subst e
  rw [if_pos rfl,List.getElem?_set,if_neg (λe=>h (by rw [e]))]
 ·rw [if_neg e]
theorem zLy(M:LabM B bl n gb X L w)(hB:B<=w.heap.size){s:Bool}{v:Nat}(hv:v<n)(hn:n<=200)(x:HitD)(hl:(L s v).length<=1000){fn:FuncId}(hfn:s=false/\fn=F.qa\/s=true/\fn=F.qb):
  Sp PP fn #[.int .i64 (v:Int),agg x,.pointer (some ⟨bl,0,none⟩)] w λ_ w'=>(∃z,LabM B bl n gb (setX X s v z) (setL L s v (L s v++[x])) w' /\
   ∀s0 h0 (c:SV) l0,CapM X s0 h0 c l0 w->((s0,h0)=(s,v)->(X s)[v]? = some c/\l0=L s v)->CapM (setX X s v z) s0 h0 c l0 w')/\FrX (gX gb) B hE w w':=by
 have hvX:v<(X s).length:=by rw [M.len];exact hv
 have hzi:(X s)[v]? = some (X s)[v]:=by simp
 have q_:∃z,z=(X s)[v]:=⟨_,rfl⟩
 obtain⟨z,hz⟩:=q_
 rw [<-hz] at hzi
 have O:=M.own s v z hzi
 have hgs:=M.gx s (by omega)
 have fin:∀(u u6 u7 u8:World) (v7:Value),Stp w u->Stp u u6->Own B E.qe u7 v7 (L s v++[x])->Fr (ownD B z.v) u6 u7->(Value.blk v7=Value.blk z.v\/(Value.blk v7=some u6.heap.size/\Ext u6 u7)) ->
   Own B E.qo u8 (.slice (some ⟨gb s,0,none⟩) n n) ((X s).set v (svOf v7))->Fr (ownD B (.slice (some ⟨gb s,0,none⟩) n n)) u7 u8->u8.heap.size=u7.heap.size ->
   (∃z,LabM B bl n gb (setX X s v z) (setL L s v (L s v++[x])) u8 /\
    ∀s0 h0 (c:SV) l0,CapM X s0 h0 c l0 w->((s0,h0)=(s,v)->(X s)[v]? = some c/\l0=L s v)->CapM (setX X s v z) s0 h0 c l0 u8)/\FrX (gX gb) B hE w u8:=by
  intro u u6 u7 u8 v7 e e6 O7 f7 hb7 O8 f8 z8
  have M6:=(M.up (w':=u)).up (w':=u6)
  have z6:=Le.size (a:=w) (b:=u6)
  have z7:=f7.size
  have O6:=M6.own s v z hzi
  have hsv:(svOf v7).v=v7:=svOf_v O7.sl
  have hgb:∀i,ownD B (.slice (some ⟨gb s,0,none⟩) n n) i->i=gb s:=λi h=>(Option.some.inj h.2.1).symm
  have kp:∀(C:Nat) (y:Value) (l:List HitD),Own C E.qe u6 y l->(∀b,Value.blk y=some b->Value.blk z.v≠some b)->Own C E.qe u8 y l:=λC y l h1 h2=>by
   have h3:=h1.fr f7 λb _ hb h=>h2 b hb h.2.1
   have O7r:Own B E.qo u7 (.slice (some ⟨gb s,0,none⟩) n n) (X s):=(M6.row s).fro O6 f7 (by decide)
   exact h3.fro O7r f8 (by decide)
  have R7:∀s',Own B E.qo u7 (.slice (some ⟨gb s',0,none⟩) n n) (X s'):=λs'=>(M6.row s').fro O6 f7 (by decide)
  refine⟨⟨svOf v7,⟨M.lo,(M6.cell.fro O6 f7 (by decide)).fro (R7 s) f8 (by decide),λs'=>?_,λs'=>?_,M.gne,λs' v' y hy=>?_,λs' v' y b hy hb=>?_,λs1 v1 y1 s2 v2 y2 h1 h2 hne b hb=>?_⟩,λs0 h0 c l0 C hc=>⟨?_,?_⟩⟩,?_⟩
  ·by_cases es:s'=s
   ·subst es;unfold setX;rw [if_pos rfl];exact O8
   ·unfold setX;rw [if_neg es]
    refine(R7 s').fr f8 λb _ hb h=>?_
    have h1:=hgb b h
    have h2:gb s'=b:=Option.some.inj hb
    have h3:gb s'=gb s:=by omega
    cases s <;> cases s' <;> first|exact es rfl|exact M.gne h3|exact M.gne h3.symm
  ·unfold setX
   by_cases es:s'=s
   ·subst es;rw [if_pos rfl,List.length_set];exact M.len _
   ·rw [if_neg es];exact M.len _
  ·by_cases e2:(s',v')=(s,v)
   ·injection e2 with e3 e4
    subst e3 e4
    rw [zDC hvX] at hy
    have:=Option.some.inj hy
    subst this
    unfold setL
    rw [if_pos rfl,hsv]
    exact O7.fro (R7 _) f8 (by decide)
   ·rw [zBG e2] at hy
    unfold setL
    rw [if_neg e2]
    exact kp _ _ _ (M6.own s' v' y hy) λb hb=>M.apart s' v' y s v z hy hzi e2 b hb
  ·by_cases e2:(s',v')=(s,v)
   ·injection e2 with e3 e4
    subst e3 e4
    rw [zDC hvX] at hy
    have:=Option.some.inj hy
    subst this
    rw [hsv] at hb
    have q_:=O7.lt (by simp)
    obtain⟨b',h1,_,h3⟩:=q_
    rw [hb] at h1
    have:=Option.some.inj h1
    omega
   ·rw [zBG e2] at hy
    have:=M.lt s' v' y b hy hb
    omega
  ·by_cases e1:(s1,v1)=(s,v)
   ·injection e1 with e3 e4
    subst e3 e4
    have e2:(s2,v2)≠(s1,v1):=λe=>hne e.symm
    rw [zDC hvX] at h1
    have:=Option.some.inj h1
    subst this
    rw [zBG e2] at h2
    rw [hsv] at hb
    intro hb2
    rcases hb7 with h3|⟨h3,_⟩
    ·rw [h3] at hb
     exact M.apart s2 v2 y2 s1 v1 z h2 hzi e2 b hb2 hb
    ·rw [hb] at h3
     have h4:=Option.some.inj h3
     have h5:=M.lt s2 v2 y2 b h2 hb2
     omega
   ·rw [zBG e1] at h1
    by_cases e2:(s2,v2)=(s,v)
    ·injection e2 with e3 e4
     subst e3 e4
     rw [zDC hvX] at h2
     have:=Option.some.inj h2
     subst this
     rw [hsv]
     intro hb2
     rcases hb7 with h3|⟨h3,_⟩
     ·rw [h3] at hb2
      exact M.apart s1 v1 y1 s2 v2 z h1 hzi e1 b hb hb2
     ·rw [hb2] at h3
      have h4:=Option.some.inj h3
      have h5:=M.lt s1 v1 y1 b h1 hb
      omega
    ·rw [zBG e2] at h2
     exact M.apart s1 v1 y1 s2 v2 y2 h1 h2 hne b hb
  ·have C6:=(C.sl.up (w':=u)).up (w':=u6)
   have S7:SlY E.qe u7 c.v l0:=by
    by_cases e2:(s0,h0)=(s,v)
    ·have q_:=hc e2
     obtain⟨h1,h2⟩:=q_
     rw [hzi] at h1
     have hzc:=Option.some.inj h1
     subst hzc
     rw [h2] at C6 ⊢
     rcases hb7 with h3|⟨_,h3⟩
     ·by_cases h0:L s v=[]
      ·rw [h0] at C6 ⊢
       exact⟨by obtain⟨a,c,e⟩:=C6.1.shape;rw [e];exact SlF.nil' _ _ _,.inl rfl⟩
      ·have q_:=O6.shape
       obtain⟨a,c,e⟩:=q_
       have O6':=O6
       rw [e] at O6'
       have q_:=O6'.blk h0
       obtain⟨g,cur,h4,_,_,h5,h6,_⟩:=q_
       have O7':=O7
       have q_:=O7.shape
       obtain⟨a7,c7,e7⟩:=q_
       rw [e7] at O7'
       have q_:=O7'.blk (by simp)
       obtain⟨g7,cur7,h8,_,_,h9,h10,_,_,h11⟩:=q_
       rw [e,e7,h4,h8] at h3
       have h12:g7=g:=Option.some.inj h3
       subst h12
       rw [e,h4]
       refine⟨⟨_,c,rfl,h6,.inr ⟨g7,0,rfl,?_⟩⟩,.inr ⟨g7,_,_,rfl,h9⟩⟩
       intro j u hj
       have h13:=O7'.sl
       rw [h8] at h13
       obtain⟨a',c',hv',_,h14⟩:=h13
       injection hv' with i1 i2 i3
       rcases h14 with h14|⟨b',o',h15,h16⟩
       ·simp at h14
       ·rw [<-i1] at h15
        have h17:=Option.some.inj h15
        injection h17 with i4 i5
        subst i4 i5
        exact h16 j u (by rw [flat_append,List.getElem?_append_left (List.getElem?_eq_some_iff.1 hj).1];exact hj)
     ·exact C6.fr h3 λ_ _ _ _ _ h=>h
    ·refine C6.frN f7 λb hne hb h=>?_
     exact C.ap hne b hb s v z hzi (λe=>e2 e.symm) h.2.1
   exact S7.fro (R7 s) f8 (by decide)
  ·intro hne b hb s' v' z' h' hne2
   by_cases e2:(s',v')=(s,v)
   ·injection e2 with e3 e4
    subst e3 e4
    rw [zDC hvX] at h'
    have:=Option.some.inj h'
    subst this
    rw [hsv]
    intro hb2
    rcases hb7 with h3|⟨h3,_⟩
    ·rw [h3] at hb2
     exact C.ap hne b hb s' v' z hzi hne2 hb2
    ·rw [hb2] at h3
     have h4:=Option.some.inj h3
     have h5:=C.sl.1.blt hne hb
     omega
   ·rw [zBG e2] at h'
    exact C.ap hne b hb s' v' z' h' hne2
  ·have g1:FrX (gX gb) B hE w u6:=(FrX.ext e.e).trans (FrX.ext e6.e)
   have g2:FrX (gX gb) B hE u6 u7:=(O6.wrote f7 (Nat.le_refl _) (show E.qe∈hE by decide)).x (Nat.le_refl _) λ_ h=>h
   have g3:FrX (gX gb) B hE u7 u8:=f8.mono λi _ hi=>.inl (by have:=hgb i hi;subst this;cases s;exact .inr rfl;exact .inl rfl)
   exact(g1.trans g2).trans g3
 have hDc:¬(bl=gb s\/ownD B z.v bl):=by
  rintro(h|h)
  ·have h1:=M.cell.h
   obtain⟨g,cur,h2,_,_,h3,_⟩:=(M.row s).blk (by intro h0;rw [h0] at hvX;cases hvX)
   injection h2 with h2
   injection h2 with h2
   subst h2
   rw [h,h3] at h1
   injection h1 with h1
   injection h1 with _ h1
   exact absurd h1 (by decide)
  ·exact M.cell.notOwn O (by decide) h
 have row:∀u,Stp w u->Own B E.qo u (.slice (some ⟨gb s,0,none⟩) n n) (X s):=λu e=>(M.row s).up
 have hzv:z.v=.slice z.a z.n z.c:=rfl
 have hzn:z.n=(L s v).length:=by rw [hzv] at O;exact O.sl.len
 rcases hfn with ⟨hs,rfl⟩|⟨hs,rfl⟩
 all_goals
  refine en TBok rfl ?_
  refine rbx λbx w1 n1 B1=>?_
  have hbx:=n1.lo (u:=w)
  have B1:Bk w1 bx (enc x) E.qe:=B1
  refine drawRT TBok mixed (λi=>i=gb s\/ownD B z.v i) (.one 0 (.one 1 (.one 2 (.one 3 (.one 4 (.one 5 (.one 6 (.one 8 (.duo 7 (.one 9 (.one 10 (.one 11 (.one 12 .nil)))) 9 (.lone 7 (.one 10 (.one 11 (.one 12 .nil))))))))))))) (by kernel_rfl) λu e _=>?_
  have su:Stp w u:=stp
  refine tld (B:=M.cell) (v:=.slice (some ⟨gb s,0,none⟩) n n) (by rw [hs];rfl) hDc (tld (B:=M.cell) (v:=.slice (some ⟨gb s,0,none⟩) n n) (by rw [hs];rfl) hDc (tix (i:=v) ((row u su).sl) hzi λb4 o4 A4 _=>?_))
  refine tldG (ds:=enc x) (B:=B1) rfl rfl (by
   rintro(h|h)
   ·omega
   ·have:=O.wr h;omega) ?_
  have Ou:=O.up (w':=u)
  refine⟨rload1 (A4.cell0 rfl) ⟨Fr.refl _ _,rbs1 x rfl rfl (by decide) λb6 u6 e6 _ S6=>⟨Fr.fr e6.e,?_⟩⟩,rbs1 x rfl rfl (by decide) λb6 u6 e6 _ S6=>⟨Fr.fr e6.e,rload1 ((A4.up (w':=u6)).cell0 rfl) ⟨Fr.refl _ _,?_⟩⟩⟩
  all_goals
   have z6:=e6.e.size
   have zu:=su.e.size
   refine rappX ⟨rfl,rfl⟩ (Ou.up (w':=u6)) S6 (by simp) (by omega) (by simp only [List.length_cons,List.length_nil];omega) λv7 u7 O7 f7 hb7=>⟨f7.mono λi _ hi=>.inr hi,?_⟩
   have R7:=((row u su).up (w':=u6)).fro (Ou.up (w':=u6)) f7 (by decide)
   refine tixO rfl R7 (i:=v) hzi λg5 hg5 _ A5=>rstO' rfl (svOf v7) R7 hg5 hvX (by obtain⟨a7,c7,rfl⟩:=O7.shape;rfl) λu8 O8 f8 z8=>⟨f8.mono λi _ h=>.inl (Option.some.inj h.2.1).symm,?_⟩
   exact fin u u6 u7 u8 v7 su e6 O7 f7 hb7 O8 f8 z8
end
structure LeaP (ps:List (HitD×HitD)) (n:Int) (ok:Bool):Prop where
 no:ok=false->n=0/\∀p∈ps,p.1.v≠p.2.v
 yes:ok=true->(∃p∈ps,p.1.v=p.2.v/\n=p.1.d+p.2.d)/\∀p∈ps,p.1.v=p.2.v->n<=p.1.d+p.2.d
theorem LeaP.skip{ps:List (HitD×HitD)}{n:Int}{ok:Bool}(h:LeaP ps n ok){p:HitD×HitD}(hp:p.1.v≠p.2.v\/ok=true/\n<=p.1.d+p.2.d):LeaP (ps++[p]) n ok:=by
 refine⟨λh0=>⟨(h.no h0).1,λq hq=>?_⟩,λh1=>⟨?_,λq hq e=>?_⟩⟩
 ·have q_:=List.mem_append.1 hq
  rcases q_ with hq|hq
  ·exact(h.no h0).2 q hq
  ·rw [List.mem_singleton.1 hq]
   rcases hp with hp|⟨hp,_⟩
   ·exact hp
   ·rw [h0] at hp;cases hp
 ·have q_:=(h.yes h1).1
  obtain⟨q,hq,h2⟩:=q_
  exact⟨q,List.mem_append_left _ hq,h2⟩
 ·have q_:=List.mem_append.1 hq
  rcases q_ with hq|hq
  ·exact(h.yes h1).2 q hq e
  ·rw [List.mem_singleton.1 hq] at e ⊢
   rcases hp with hp|⟨_,hp⟩
   ·exact absurd e hp
   ·exact hp
theorem LeaP.take{ps:List (HitD×HitD)}{n:Int}{ok:Bool}(h:LeaP ps n ok){p:HitD×HitD}(hp:p.1.v=p.2.v)(h2:ok=false\/p.1.d+p.2.d<n):LeaP (ps++[p]) (p.1.d+p.2.d) true:=by
 refine⟨(λh0=>nomatch h0),λ_=>⟨⟨p,by simp,hp,rfl⟩,λq hq e=>?_⟩⟩
 have q_:=List.mem_append.1 hq
 rcases q_ with hq|hq
 ·rcases h2 with h2|h2
  ·exact absurd e ((h.no h2).2 q hq)
  ·cases ok with
   |false=>exact absurd e ((h.no rfl).2 q hq)
   |true=>have:=(h.yes rfl).2 q hq e;omega
 ·rw [List.mem_singleton.1 hq];exact Int.le_refl _
theorem LeaP.all{a b:List HitD}{n:Int}{ok:Bool}(h:LeaP (a.flatMap λx=>b.map λy=>(x,y)) n ok):LeaR a b n ok:=by
 have m:∀{x y:HitD},(x,y)∈(a.flatMap λx=>b.map λy=>(x,y))↔x∈a/\y∈b:=λ{x y}=>by
  rw [List.mem_flatMap]
  constructor
  ·rintro⟨x',h1,h2⟩
   have q_:=List.mem_map.1 h2
   obtain⟨y',h3,h4⟩:=q_
   injection h4 with h5 h6
   subst h5 h6
   exact⟨h1,h3⟩
  ·rintro⟨h1,h2⟩
   exact⟨x,h1,List.mem_map.2 ⟨y,h2,rfl⟩⟩
 refine⟨λh0=>⟨(h.no h0).1,λx hx y hy=>(h.no h0).2 (x,y) (m.2 ⟨hx,hy⟩)⟩,λh1=>⟨?_,λx hx y hy e=>(h.yes h1).2 (x,y) (m.2 ⟨hx,hy⟩) e⟩⟩
 have q_:=(h.yes h1).1
 obtain⟨⟨x,y⟩,h2,h3,h4⟩:=q_
 have:=m.1 h2
 exact⟨x,this.1,y,this.2,h3,h4⟩
def HitB (l:List HitD):Prop:=l.length<=1000/\∀x∈l,0<=x.d/\x.d<=1000
theorem zBV{c c2:Nat}{la lb:List HitD}(SA:SlF w (.slice a n c) la)(SB:SlF w (.slice a2 n2 c2) lb)(ha:HitB la)(hb:HitB lb):
  Sp PP F.cf #[.slice a n c,.slice a2 n2 c2] w λv w'=>(∃m ok,v=.tuple #[.int .i64 m,.bool ok]/\LeaR la lb m ok)/\Stp w w':=by
 have q_:=SA.len
 obtain rfl:=q_
 have q_:=SB.len
 obtain rfl:=q_
 have hla:=ha.1;have hlb:=hb.1
 refine en TBok rfl ?_
 refine cnt2 TBok 15 [8,9,10,11] 6 7 14 la.length (λk v1 v2 u=>∃m ok,v1=.int .i64 m/\v2=.bool ok/\LeaP ((la.take k).flatMap λx=>lb.map λy=>(x,y)) m ok/\Stp w u) rfl rfl ⟨0,false,rfl,rfl,⟨λ_=>⟨rfl,by simp⟩,(λh=>nomatch h)⟩,stp⟩ ?_
 rintro k v1 v2 G u hk ⟨m,ok,rfl,rfl,P,su⟩
 refine ite (λhlt=>?_) (λhge=>?_)
 ·have hk1:k<la.length:=by omega
  have hxm:=ha.2 la[k] (List.getElem_mem hk1)
  have q_:∃x,x=la[k]:=⟨_,rfl⟩
  obtain⟨x,hx⟩:=q_
  rw [<-hx] at hxm
  refine rix (SA.up (w':=u)) (i:=k) (x:=x) (by rw [hx];simp) λb1 o1 A1=>rloadA A1 rfl (ral λbx w1 n1 X1=>?_)
  have hbx:=n1.lo (u:=w)
  refine rsto (B:=X1) (vs:=enc x) rfl rfl rfl (Enc.one _) λw2 X2 f2 _=>?_
  have X2:Bk w2 bx (enc x) E.qe:=X2
  have t2:Stp w w2:=⟨Fr.st (Le.e (a:=w) (b:=w1)) f2 λi hi=>by omega⟩
  have hP:((la.take (k+1)).flatMap λx=>lb.map λy=>(x,y))=((la.take k).flatMap λx=>lb.map λy=>(x,y))++lb.map λy=>(x,y):=by rw [zAa hk1,List.flatMap_append,hx];simp
  refine cnt2 TBok 21 [10,11] 6 7 20 lb.length (λj v1 v2 u2=>∃m ok,v1=.int .i64 m/\v2=.bool ok/\LeaP (((la.take k).flatMap λx=>lb.map λy=>(x,y))++(lb.take j).map λy=>(x,y)) m ok/\Bk u2 bx (enc x) E.qe/\Stp w u2) rfl rfl ⟨m,ok,rfl,rfl,by simpa using P,X2,t2⟩ ?_
  clear P
  rintro j v3 v4 G2 u2 hj ⟨m,ok,rfl,rfl,P,X3,su2⟩
  refine ite (λhlt2=>?_) (λhge2=>?_)
  ·have hj1:j<lb.length:=by omega
   have hym:=hb.2 lb[j] (List.getElem_mem hj1)
   have q_:∃y,y=lb[j]:=⟨_,rfl⟩
   obtain⟨y,hy⟩:=q_
   rw [<-hy] at hym
   have hPj:(((la.take k).flatMap λx=>lb.map λy=>(x,y))++(lb.take (j+1)).map λy=>(x,y))=(((la.take k).flatMap λx=>lb.map λy=>(x,y))++(lb.take j).map λy=>(x,y))++[(x,y)]:=by rw [zAa hj1,List.map_append,<-List.append_assoc,hy];rfl
   refine rix (SB.up (w':=u2)) (i:=j) (x:=y) (by rw [hy];simp) λb4 o4 A4=>rloadA A4 rfl (ral λby' w4 n4 X4=>?_)
   have hby:=n4.lo (u:=u2)
   refine rsto (B:=X4) (vs:=enc y) rfl rfl rfl (Enc.one _) λw5 X5 f5 _=>?_
   have X5:Bk w5 by' (enc y) E.qe:=X5
   have t5:Stp u2 w5:=⟨Fr.st (Le.e (a:=u2) (b:=w4)) f5 λi hi=>by omega⟩
   have X6:=X3.mv (w:=w5)
   refine rld (B:=X6) rfl (rld (B:=X5) rfl ?_)
   have skip:(x.v≠y.v\/ok=true/\m<=x.d+y.d)->∃m' ok',Value.int .i64 m=.int .i64 m'/\Value.bool ok=.bool ok'/\LeaP (((la.take k).flatMap λx=>lb.map λy=>(x,y))++(lb.take (j+1)).map λy=>(x,y)) m' ok'/\Bk w5 bx (enc x) E.qe/\Stp w w5:=λh =>
    ⟨m,ok,rfl,rfl,by rw [hPj];exact P.skip h,X6,stp⟩
   have take:x.v=y.v->(ok=false\/x.d+y.d<m)->∃m' ok',Value.int .i64 (x.d+y.d)=.int .i64 m'/\Value.bool true=.bool ok'/\LeaP (((la.take k).flatMap λx=>lb.map λy=>(x,y))++(lb.take (j+1)).map λy=>(x,y)) m' ok'/\Bk w5 bx (enc x) E.qe/\Stp w w5:=λh h' =>
    ⟨x.d+y.d,true,rfl,rfl,by rw [hPj];exact P.take (p:=(x,y)) h h',X6,stp⟩
   refine ite (λhe=>?_) (λhne=>?_)
   ·cases ok with
    |false =>
     refine rld (B:=X6) rfl (rld (B:=X5) rfl ?_)
     refine rA ?_
     exact rA ⟨rfl,hj1,take he (.inl rfl)⟩
    |true =>
     refine rld (B:=X6) rfl (rld (B:=X5) rfl ?_)
     refine rA (ite (λhl=>?_) (λhl=>?_))
     ·refine rld (B:=X6) rfl (rld (B:=X5) rfl ?_)
      refine rA ?_
      exact rA ⟨rfl,hj1,take he (.inr hl)⟩
     ·exact rA ⟨rfl,hj1,skip (.inr ⟨rfl,by omega⟩)⟩
   ·exact rA ⟨rfl,hj1,skip (.inl hne)⟩
  ·have hjl:j=lb.length:=by omega
   rw [hjl,List.take_length,<-hP] at P
   exact rA ⟨rfl,hk1,m,ok,rfl,rfl,P,su2⟩
 ·have hkl:k=la.length:=by omega
  rw [hkl,List.take_length] at P
  exact⟨⟨m,ok,rfl,P.all⟩,su⟩
section
variable {B bl n:Nat} {gb:Bool->Nat} {X:Bool->List SV} {L:Bool->Nat->List HitD} {w w':World}
theorem zFL(M:LabM B bl n gb X L w)(hn:n<=200){s:Bool}{v d bo:Nat}(hv:v<n)(hd:d<=200){h:Nat}{cs:SV}{lc:List HitD}(C:CapM X (!s) h cs lc w)(hbo:Bk w bo [cs.v] E.qo)(h1:HitB (L s v))(h2:HitB lc){fn:FuncId}{cap:List Value}
  (hfn:s=false/\fn=F.qz/\cap=[.pointer (some ⟨bo,0,none⟩),.pointer (some ⟨bl,0,none⟩)]\/s=true/\fn=F.q0/\cap=[.pointer (some ⟨bl,0,none⟩),.pointer (some ⟨bo,0,none⟩)]):
  Sp PP fn ([Value.int .i64 (v:Int),Value.int .i64 (d:Int)]++cap).toArray w λr w'=>(∃b:Bool,r=.bool b/\(b=true↔if s then Lea (L s v) lc d else Lea lc (L s v) d))/\Stp w w':=by
 have hvX:v<(X s).length:=by rw [M.len];exact hv
 have hzi:(X s)[v]? = some (X s)[v]:=by simp
 have q_:∃z,z=(X s)[v]:=⟨_,rfl⟩
 obtain⟨z,hz⟩:=q_
 rw [<-hz] at hzi
 have O:=M.own s v z hzi
 rcases hfn with ⟨rfl,rfl,rfl⟩|⟨rfl,rfl,rfl⟩
 ·refine en TBok rfl ?_
  refine drawR TBok mixed (λ_=>False) (upF 12 0) (by kernel_rfl) λu e _=>tld (B:=hbo) rfl nf (tld (B:=M.cell) rfl nf (tix (i:=v) (((M.row false).up (w':=u)).sl) hzi λb4 o4 A4 _=>tload1 (A4.cell0 rfl) nf (rcall (zBV (C.sl.1.up (w':=u)) (O.sl.up (w':=u)) h2 h1) ?_)))
  rintro _ u2 ⟨⟨m,ok,rfl,R⟩,e2⟩
  refine⟨e2.e,?_⟩
  have I:=R.iff d
  cases ok with
  |false=>exact⟨⟨false,rfl,⟨(λh=>nomatch h),λh=>by have:=I.2 h;cases this.1⟩⟩,stp⟩
  |true =>
   refine ite (λhl=>?_) (λhl=>?_)
   ·exact⟨⟨true,rfl,⟨λ_=>I.1 ⟨rfl,hl⟩,λ_=>rfl⟩⟩,stp⟩
   ·exact⟨⟨false,rfl,⟨(λh=>nomatch h),λh=>absurd (I.2 h).2 hl⟩⟩,stp⟩
 ·refine en TBok rfl ?_
  refine drawR TBok mixed (λ_=>False) (upF 12 0) (by kernel_rfl) λu e _=>tld (B:=M.cell) rfl nf (tix (i:=v) (((M.row true).up (w':=u)).sl) hzi λb4 o4 A4 _=>tload1 (A4.cell0 rfl) nf (tld (B:=hbo) rfl nf (rcall (zBV (O.sl.up (w':=u)) (C.sl.1.up (w':=u)) h1 h2) ?_)))
  rintro _ u2 ⟨⟨m,ok,rfl,R⟩,e2⟩
  refine⟨e2.e,?_⟩
  have I:=R.iff d
  cases ok with
  |false=>exact⟨⟨false,rfl,⟨(λh=>nomatch h),λh=>by have:=I.2 h;cases this.1⟩⟩,stp⟩
  |true =>
   refine ite (λhl=>?_) (λhl=>?_)
   ·exact⟨⟨true,rfl,⟨λ_=>I.1 ⟨rfl,hl⟩,λ_=>rfl⟩⟩,stp⟩
   ·exact⟨⟨false,rfl,⟨(λh=>nomatch h),λh=>absurd (I.2 h).2 hl⟩⟩,stp⟩
end
structure SrC (g:GrD) (dir:Int) (h:Nat) (P:Nat->Nat->Prop) (fN fA fT:FuncId) (cN cA cT:List Value) (B:Nat) (Y:Nat->Prop) (W:World) (St:(Nat->Option Nat)->World->Prop):Prop where
 next:∀A u v,St A u->v<g.n->Sp PP fN ([Value.int .i64 (v:Int)]++cN).toArray u λrv w'=>(∃a c,rv=.slice a (nbL g dir v).length c/\SlF w' (.slice a (nbL g dir v).length c) (intsN (nbL g dir v))/\∀b,nbL g dir v≠[]->Value.blk (.slice a (nbL g dir v).length c)=some b->b<W.heap.size)/\Stp u w'
 test:∀A u (v d:Nat),St A u->v<g.n->d<=200->A v=none->Sp PP fT ([Value.int .i64 (v:Int),Value.int .i64 (d:Int)]++cT).toArray u λr w'=>(∃b:Bool,r=.bool b/\(b=true↔P v d))/\Stp u w'
 add:∀A u (v d:Nat),St A u->v<g.n->d<g.n->A v=none->Sp PP fA ([Value.int .i64 (v:Int),agg (⟨(h:Int),(d:Int)⟩:HitD)]++cA).toArray u λ_ w'=>(∃A',(∀u,A' u=if u=v then some d else A u)/\St A' w')/\FrX Y B hE u w'
 kept:∀A u u',St A u->FrT W.heap.size [E.q2,E.qa] u u'->St A u'
 lo:∀i,Y i->i<W.heap.size
theorem zJj{l:List Nat}(h:l.Nodup)(hk:k<l.length):l[k]∉l.take k:=λhm=>by
 have q_:=List.mem_iff_getElem.1 hm
 obtain⟨i,hi,e⟩:=q_
 rw [List.getElem_take] at e
 rw [List.length_take] at hi
 have:=(List.getElem_inj h).1 e
 omega
theorem zC6{dir:Int}{h:Nat}{P:Nat->Nat->Prop}{fN fA fT:FuncId}{cN cA cT:List Value}{Y:Nat->Prop}{St:(Nat->Option Nat)->World->Prop}(hg:GrIs g)(hd:dir=0\/dir=1)(hh:h<g.n)(C:SrC g dir h P fN fA fT cN cA cT B Y w St)(S0:St (λ_=>none) w)(hB:B<=w.heap.size):
  Sp PP F.pe #[.agg #[.func (.func fN) #[] cN.toArray,.func (.func fA) #[] cA.toArray],.int .i64 (g.n:Int),.int .i64 (h:Int),.func (.func fT) #[] cT.toArray] w λ_ w'=>(∃A,SrD g dir h P A/\St A w')/\FrX Y B hE w w':=by
 have h2:=hg.ok.n2
 have stk:∀A u u',St A u->Ext u u'->St A u':=λA u u' S e=>C.kept A u u' S (FrT.ext e)
 refine en TBok rfl ?_
 refine rbx λbs w1 n1 B1=>?_
 have B1:Bk w1 bs [.func (.func fN) #[] cN.toArray,.func (.func fA) #[] cA.toArray] E.qw:=B1
 have hbs:=n1.lo (u:=w)
 refine rmk false rfl rfl (by omega) λgb w2 O2 s2 hgb=>?_
 have z1:=Le.size (a:=w) (b:=w1)
 refine rixO rfl O2 (x:=false) (i:=h) (by rw [List.getElem?_replicate,if_pos hh]) λg' hg' hB' A=>?_
 have hgg:gb=g':=Option.some.inj hg'
 subst hgg
 refine rstO rfl true O2 hg' (by simp;omega) rfl λw3 O3 f3 s3 z3=>?_
 have t3:Stp w w3:=⟨Fr.st (Le.e (a:=w) (b:=w2)) f3 λi hi=>by have:=hi.1;omega⟩
 refine rbs (vs:=[.int .i64 (h:Int)]) [(h:Int)] rfl rfl rfl (by decide) λbf w5 n5 S5=>?_
 have t5:Stp w3 w5:=⟨n5.ext⟩
 have hbf:=n5.lo
 have O5:=(O3.mono (B':=w.heap.size) z1).up (w':=w5)
 have B5:Bk w5 bs [.func (.func fN) #[] cN.toArray,.func (.func fA) #[] cA.toArray] E.qw:=(B1.mv (w:=w2)).fro O2 f3 (by decide) |>.mv
 have S5':SlY E.qa w5 (.slice (some ⟨bf,0,none⟩) 1 1) (intsN [h]):=⟨S5,.inr ⟨bf,_,_,rfl,n5.blk⟩⟩
 have tw5:Stp w w5:=stp
 refine loop2 TBok 23 [11,12,13,14,15] 9 10 (λv9 v10 u=>∃d seen fr A Sl fa fc,v9=.slice fa (List.length fr) fc/\v10=.int .i64 ((d:Nat):Int)/\SrI g dir h P d seen fr A Sl/\St A u/\Own w.heap.size E.q2 u (.slice (some ⟨gb,0,none⟩) g.n g.n) seen /\
   SlY E.qa u (.slice fa fr.length fc) (intsN fr)/\(fr≠[]->∀b,Value.blk (.slice fa fr.length fc)=some b->w.heap.size<=b)/\Bk u bs [.func (.func fN) #[] cN.toArray,.func (.func fA) #[] cA.toArray] E.qw/\FrX Y B hE w u) (λ_ v _=>g.n+1 - (Go.RowKit.intOf v).toNat) rfl
  ⟨0,_,[h],_,_,some ⟨bf,0,none⟩,1,rfl,rfl,SrI.first hh,stk _ _ _ S0 tw5.e,O5,S5',λ_ b hb=>?_,B5,FrX.ext tw5.e⟩ ?_
 ·have:=Option.some.inj hb
  simp only at this
  have:=Le.size (a:=w) (b:=w3)
  omega
 rintro v9 v10 G u ⟨d,seen,fr,A,Sl,fa,fc,rfl,rfl,I,S,O,SY,hSY,Bs,F0⟩
 have zu:=F0.size
 refine ite (λhgt=>?_) (λhle=>?_)
 ·have hfn:fr≠[]:=λh=>by rw [h] at hgt;exact absurd hgt (by decide)
  have hdn:=I.small hfn
  have hfl:fr.length<=g.n:=zCL I.fnd λv hv=>I.lt v (I.fs v hv).1
  have hfb:∀b,Value.blk (.slice fa fr.length fc)=some b->b<u.heap.size:=λb hb=>SY.1.blt (by intro h;apply hfn;simpa [intsN] using h) hb
  refine cnt1 TBok 31 [12,13,14,15] 11 30 fr.length (λk v u2=>∃seen2 l A2,SrM g dir h P d seen2 fr A Sl (fr.take k) l A2/\St A2 u2/\Own w.heap.size E.q2 u2 (.slice (some ⟨gb,0,none⟩) g.n g.n) seen2/\Own u.heap.size E.qa u2 v (intsN l) /\
    SlY E.qa u2 (.slice fa fr.length fc) (intsN fr)/\Bk u2 bs [.func (.func fN) #[] cN.toArray,.func (.func fA) #[] cA.toArray] E.qw/\FrX Y B hE w u2/\u.heap.size<=u2.heap.size) rfl rfl
   ⟨seen,[],A,I.begin,S,O,Own.nil _ _ _,SY,Bs,F0,Nat.le_refl _⟩ ?_
  rintro k v11 G2 u2 hk ⟨seen2,l,A2,M,S2,O2,L2,SY2,Bs2,F2,z2⟩
  refine ite (λhlt=>?_) (λhge=>?_)
  ·have hk1:k<fr.length:=by omega
   have q_:∃v,v=fr[k]:=⟨_,rfl⟩
   obtain⟨v,hv⟩:=q_
   have hvm:v∈fr:=by rw [hv];exact List.getElem_mem hk1
   have hvn:v<g.n:=I.lt v (I.fs v hvm).1
   have hvq:v∉fr.take k:=by rw [hv];exact zJj I.fnd hk1
   have hA2:A2 v=none:=by rw [(M.at' v).2.2 hvq];exact(I.fs v hvm).2.2
   have htk:fr.take (k+1)=fr.take k++[v]:=by rw [zAa hk1,hv]
   have hvi:(intsN fr)[k]? = some (v:Int):=by rw [hv];exact zF8 hk1
   refine rix SY2.1 hvi λb4 o4 A4=>rload1 (A4.cell0 rfl) (rcall (C.test A2 u2 v d S2 hvn (by omega) hA2) ?_)
   rintro _ u3 ⟨⟨b,rfl,hb⟩,e3⟩
   cases b with
   |true =>
    have M':=M.skip hvq (hb.1 rfl)
    rw [<-htk] at M'
    have z3:=e3.e.size
    exact rA ⟨rfl,hk1,seen2,l,A2,M',stk _ _ _ S2 e3.e,O2.up,L2.up,SY2.up,Bs2.mv,F2.trans (FrX.ext e3.e),by omega⟩
   |false =>
    have hnp:¬P v d:=λh=>by have:=hb.2 h;cases this
    refine rld (B:=Bs2) rfl (rbuild (cs:=enc (⟨(h:Int),(d:Int)⟩:HitD)) rfl (rcall (C.add A2 u3 v d (stk _ _ _ S2 e3.e) hvn hdn hA2) ?_))
    rintro _ u4 ⟨⟨A3,hA3,S4⟩,f4⟩
    have z3:=e3.e.size
    have z4:=f4.size
    have O4:=(O2.up (w':=u3)).keptX f4 (λi hi _ h=>by have:=C.lo i h;omega) (by decide)
    have L4:=(L2.up (w':=u3)).keptX f4 (λi hi _ h=>by have:=C.lo i h;omega) (by decide)
    have SY4:=(SY2.up (w':=u3)).keptX f4 (λi hi h=>by have:=C.lo i h;have:=hSY hfn i hi;omega) (by decide)
    have Bs4:=(Bs2.mv (w:=u3)).keptX f4 (λh=>by have:=C.lo _ h;omega) (by decide)
    have F4:=(F2.trans (FrX.ext e3.e)).trans f4
    refine rld (B:=Bs4) rfl (rcall (C.next A3 u4 v S4 hvn) ?_)
    rintro _ u5 ⟨⟨na,nc,rfl,SN,hna⟩,e5⟩
    have z5:=e5.e.size
    have hnl:=nb_len hg dir v
    refine cnt1 TBok 51 [14,15] 11 50 (nbL g dir v).length (λj v6 u6=>∃seen6 l6,SrN g dir h P d seen6 fr A Sl (fr.take k) ((nbL g dir v).take j) l6 A2/\St A3 u6/\Own w.heap.size E.q2 u6 (.slice (some ⟨gb,0,none⟩) g.n g.n) seen6/\Own u.heap.size E.qa u6 v6 (intsN l6) /\
      SlY E.qa u6 (.slice fa fr.length fc) (intsN fr)/\Bk u6 bs [.func (.func fN) #[] cN.toArray,.func (.func fA) #[] cA.toArray] E.qw/\FrX Y B hE w u6/\u.heap.size<=u6.heap.size/\SlF u6 (.slice na (nbL g dir v).length nc) (intsN (nbL g dir v))) rfl rfl
     ⟨seen2,l,M.on,stk _ _ _ S4 e5.e,O4.up (w':=u5),L4.up (w':=u5),SY4.up (w':=u5),Bs4.mv (w:=u5),F4.trans (FrX.ext e5.e),by omega,SN⟩ ?_
    clear M S2 O2 L2 SY2 Bs2 F2 S4 O4 L4 SY4 Bs4 F4 SN
    rintro j v6 G6 u6 hj ⟨seen6,l6,N,S6,O6,L6,SY6,Bs6,F6,z6,SN6⟩
    refine ite (λhlt2=>?_) (λhge2=>?_)
    ·have hj1:j<(nbL g dir v).length:=by omega
     have q_:∃y,y=(nbL g dir v)[j]:=⟨_,rfl⟩
     obtain⟨y,hy⟩:=q_
     have hyi:(intsN (nbL g dir v))[j]? = some (y:Int):=by rw [hy];exact zF8 hj1
     have hym:y∈nbL g dir v:=by rw [hy];exact List.getElem_mem hj1
     have hyn:y<g.n:=nb_lt hg.ok hym
     have hty:(nbL g dir v).take (j+1)=(nbL g dir v).take j++[y]:=by rw [zAa hj1,hy]
     have hlen:l6.length<=g.n:=zCL N.lnd λw hw=>(N.lo w hw).2.1
     have hil:(intsN l6).length=l6.length:=zBy l6
     have q_:=zNm (seen:=seen6) (z:=y) (by rw [N.len];exact hyn)
     obtain⟨sb,hsb⟩:=q_
     refine rix SN6 hyi λb7 o7 A7=>rload1 (A7.cell0 rfl) (rix (i:=y) O6.sl hsb λb8 o8 A8=>rload1 (A8.cell0 rfl) ?_)
     cases sb with
     |true =>
      have N':=N.old hyn hsb
      rw [<-hty] at N'
      exact rA ⟨rfl,hj1,seen6,l6,N',S6,O6,L6,SY6,Bs6,F6,z6,SN6⟩
     |false =>
      have N':=N.new hyn (by rw [hsb];simp) ((I.fs v hvm).2.1.step hd hym)
      rw [<-hty] at N'
      refine rixO rfl O6 (i:=y) hsb λg9 hg9 hB9 A9=>?_
      have hgg:gb=g9:=Option.some.inj hg9
      subst hgg
      refine rstO' rfl true O6 hg9 (by rw [N.len];exact hyn) rfl λw9 O9 f9 z9=>?_
      have q9:FrT w.heap.size [E.q2,E.qa] u6 w9:=O6.wrote f9 (Nat.le_refl _) (by decide)
      have L9:=L6.fro O6 f9 (by decide)
      have SY9:=SY6.fro O6 f9 (by decide)
      have Bs9:=Bs6.fro O6 f9 (by decide)
      have SN9:=SN6.kept q9 λb hb=>hna b (λh0=>by rw [h0] at hj1;cases hj1) hb
      refine rbs1 (y:Int) rfl rfl (by decide) λb10 w10 e10 _ S10=>?_
      have z10:=e10.e.size
      refine rappB ⟨rfl,rfl⟩ (L9.up (w':=w10)) S10 (by omega) (by simp only [List.length_cons,List.length_nil];omega) λv11 w11 O11 f11=>?_
      have q11:FrT w.heap.size [E.q2,E.qa] w10 w11:=(L9.up (w':=w10)).wrote f11 zu (by decide)
      have z11:=f11.size
      have O11':Own u.heap.size E.qa w11 v11 (intsN (l6++[y])):=by rw [zD3];exact O11
      have S11:=C.kept _ _ _ S6 ((q9.trans (FrT.ext e10.e)).trans q11)
      have SY11:=(SY9.up (w':=w10)).frN f11 λb _ hb h=>by have:=hfb b hb;have:=h.1;omega
      have F11:FrX Y B hE w w11:=Fr.new (Fr.trans (Fr.new F6 f9 λi hi=>hi.1) (Fr.fr e10.e)) f11 λi hi=>by have:=hi.1;omega
      exact rA ⟨rfl,hj1,_,l6++[y],N',S11,(O9.up (w':=w10)).fro (L9.up (w':=w10)) f11 (by decide),O11',SY11,(Bs9.mv (w:=w10)).fro (L9.up (w':=w10)) f11 (by decide),F11,by omega,
       (SN9.up (w':=w10)).kept q11 λb hb=>hna b (λh0=>by rw [h0] at hj1;cases hj1) hb⟩
    ·have hjl:j=(nbL g dir v).length:=by omega
     rw [hjl,List.take_length] at N
     have M':=N.done hvq hnp hA3
     rw [<-htk] at M'
     exact rA ⟨rfl,hk1,seen6,l6,A3,M',S6,O6,L6,SY6,Bs6,F6,z6⟩
  ·have hkl:k=fr.length:=by omega
   rw [hkl,List.take_length] at M
   have I':=M.next I hfn
   have q_:=L2.shape
   obtain⟨aa,ac,rfl⟩:=q_
   rw [zBy] at L2 ⊢
   refine rA ⟨⟨d+1,seen2,l,A2,_,aa,ac,rfl,rfl,I',S2,O2,L2.y,λhl b hb=>?_,Bs2,F2⟩,?_⟩
   ·obtain⟨b',h1,h3,_⟩:=L2.lt (by intro h;apply hl;simpa [intsN] using h)
    rw [hb] at h1
    have:=Option.some.inj h1
    omega
   ·show g.n+1 - (((d:Nat):Int)+1).toNat<g.n+1 - (((d:Nat):Int)).toNat
    omega
 ·have hfe:fr=[]:=by
   cases fr with
   |nil=>rfl
   |cons a b=>exact absurd (by simp only [List.length_cons];omega) hle
  subst hfe
  exact⟨⟨A,I.done,S⟩,F0⟩
def olt (a b:HitD):Bool:=decide (b.d<a.d\/a.d=b.d/\a.v<b.v)
theorem zHo(a b:HitD):olt a b=true↔b.d<a.d\/a.d=b.d/\a.v<b.v:=by unfold olt;simp
theorem olt_ff(a b:HitD):olt a b=false↔¬(b.d<a.d\/a.d=b.d/\a.v<b.v):=by unfold olt;simp
structure OAt (B:Nat) (w:World) (b:Nat) (a:Option Addr) (c:Nat) (l:List HitD):Prop where
 lo:B<=b
 cell:Bk w b [.slice a l.length c] E.q1
 row:Own B E.qp w (.slice a l.length c) l
 size:l.length<=100000
abbrev oE:List TypeId:=[E.q1,E.qp]
theorem OAt.up[Le w w']{b:Nat}{c:Nat}{l:List HitD}(h:OAt B w b a c l):OAt B w' b a c l:=⟨h.lo,h.cell.mv,h.row.up,h.size⟩
theorem zGR{c:Nat}:Sp PP F.ye #[.slice a n c] w λv w'=>v=.int .i64 (n:Nat)/\w'=w:=by
 refine en TBok rfl ?_
 exact⟨rfl,rfl⟩
theorem zKe{b c:Nat}{l:List HitD}(Q:OAt B w b a c l)(hi:i<l.length)(hj:j<l.length):
  Sp PP F.pp #[.slice a l.length c,.int .i64 i,.int .i64 j] w λv w'=>v=.bool (olt (atL l i) (atL l j))/\Stp w w':=by
 rw [zAH hi,zAH hj]
 refine en TBok rfl ?_
 refine drawR TBok mixed (λ_=>False) (upF 38 0) (by kernel_rfl) λu1 e1 _=>?_
 have S:=Q.row.sl.up (w':=u1)
 refine tix S (x:=l[i]) (by simp) λb4 o4 A4 _=>tload1 (A4.cell 1 rfl) nf (tix S (x:=l[j]) (by simp) λb5 o5 A5 _=>tload1 (A5.cell 1 rfl) nf (ite (λh1=>?_) (λh1=>?_)))
 ·have e:olt l[i] l[j]=true:=(zHo _ _).2 (.inl h1)
  rw [e];exact⟨rfl,stp⟩
 ·refine tix S (x:=l[i]) (by simp) λb4 o4 A4 _=>tload1 (A4.cell 1 rfl) nf (tix S (x:=l[j]) (by simp) λb5 o5 A5 _=>tload1 (A5.cell 1 rfl) nf (ite (λh2=>?_) (λh2=>?_)))
  ·refine tix S (x:=l[i]) (by simp) λb4 o4 A4 _=>tload1 (A4.cell 0 rfl) nf (tix S (x:=l[j]) (by simp) λb5 o5 A5 _=>tload1 (A5.cell 0 rfl) nf (ite (λh3=>?_) (λh3=>?_)))
   ·have e:olt l[i] l[j]=true:=(zHo _ _).2 (.inr ⟨h2,h3⟩)
    rw [e];exact⟨rfl,stp⟩
   ·have e:olt l[i] l[j]=false:=(olt_ff _ _).2 (by omega)
    rw [e];exact⟨rfl,stp⟩
  ·have e:olt l[i] l[j]=false:=(olt_ff _ _).2 (by omega)
   rw [e];exact⟨rfl,stp⟩
theorem zKg{b c:Nat}{l:List HitD}(Q:OAt B w b a c l)(hi:i<l.length)(hj:j<l.length):
  Sp PP F.pr #[.slice a l.length c,.int .i64 i,.int .i64 j] w λ_ w'=>OAt B w' b a c (swL l i j)/\FrT B oE w w':=by
 refine en TBok rfl ?_
 have C:=Q.cell;have O:=Q.row
 refine drawRT TBok mixed (ownD B (.slice a l.length c)) (.one 0 (.one 1 (.one 2 (.one 3 (.one 4 (.one 5 (.one 6 (.one 8 (.one 9 (.one 10 (.duo 7 (.lone 11 (.one 12 (.one 13 (.one 14 (.one 15 .nil))))) 11 (.lone 7 (.one 12 (.one 13 (.one 14 (.one 15 .nil)))))))))))))))) (by kernel_rfl) λu1 e1 _=>tix (O.sl.up (w':=u1)) (x:=l[j]) (by simp) λb4 o4 A4 _=>tix (O.sl.up (w':=u1)) (x:=l[i]) (by simp) λb5 o5 A5 _=>?_
 have fin:∀u2,Own B E.qp u2 (.slice a l.length c) ((l.set i l[j]).set j l[i])->Bk u2 b [.slice a l.length c] E.q1->Fr (ownD B (.slice a l.length c)) u1 u2->OAt B u2 b a c (swL l i j)/\FrT B oE w u2:=λu2 O2 C2 F2=>by
  refine⟨⟨Q.lo,by rw [zBH];exact C2,?_,by rw [zBH];exact Q.size⟩,(FrT.ext Le.e).trans ((O.up (w':=u1)).wrote F2 (Nat.le_refl _) (by decide))⟩
  rw [zBH]
  unfold swL
  rw [zAH hi,zAH hj];exact O2
 refine⟨rloadA A4 rfl ⟨Fr.refl _ _,rloadA A5 rfl ⟨Fr.refl _ _,?_⟩⟩,rloadA A5 rfl ⟨Fr.refl _ _,rloadA A4 rfl ⟨Fr.refl _ _,?_⟩⟩⟩
 all_goals
  refine tixO rfl (O.up (w':=u1)) (x:=l[i]) (by simp) λg1 hg1 _ A=>rstO' rfl l[j] (O.up (w':=u1)) hg1 hi rfl λu7 O7 f7 _=>⟨f7,?_⟩
  refine tixO rfl O7 (x:=(l.set i l[j])[j]'(by simpa using hj)) (by simp) λg2 hg2 _ A=>rstO' rfl l[i] O7 hg2 (by simpa using hj) rfl λu8 O8 f8 _=>⟨f8,?_⟩
  exact fin u8 O8 (((C.mv (w:=u1)).fro (O.up (w':=u1)) f7 (by decide)).fro O7 f8 (by decide)) (f7.trans f8)
theorem zKf{b c:Nat}{l:List HitD}{x:HitD}(Q:OAt B w b a c l)(hl:l.length<=99999):
  Sp PP F.pq #[.pointer (some ⟨b,0,none⟩),.iface E.qp (agg x)] w λ_ w'=>(∃a c,OAt B w' b a c (l++[x]))/\FrT B oE w w':=by
 have hb:=Q.cell.lt
 refine en TBok rfl ?_
 refine rta (ral λb4 w1 n1 B1=>rsto (B:=B1) (vs:=enc x) rfl rfl rfl (Enc.one _) λw2 B2 f2 _=>?_)
 have s2:Stp w w2:=⟨Fr.st Le.e f2 λi hi=>by subst hi;exact n1.lo⟩
 have C2:=Q.cell.mv (w:=w2)
 have O2:=Q.row.up (w':=w2)
 clear B1 f2
 have hb4:b≠b4:=by rintro rfl;have h1:=C2.h;have h2:=B2.h;rw [h1] at h2;cases h2
 refine drawRT TBok mixed (λi=>i=b\/ownD B (.slice a l.length c) i) (.one 0 (.one 1 (.one 2 (.one 4 (.duo 3 (.one 5 (.one 6 (.one 7 (.one 8 .nil)))) 5 (.lone 3 (.one 6 (.one 7 (.one 8 .nil))))))))) (by kernel_rfl) λu3 e3 _=>tldG (ds:=enc x) (B:=B2) rfl rfl (λh=>h.elim (λh=>hb4 h.symm) (λh=>by have:=Q.row.wr h;have:=n1.lo (u:=w);omega)) ?_
 have C3:=C2.mv (w:=u3)
 have O3:=O2.up (w':=u3)
 have hB3:B<=u3.heap.size:=by have:=C3.lt;have:=Q.lo;omega
 have F3:FrT B oE w u3:=FrT.ext Le.e
 have hsz:=Q.size
 refine⟨rld (B:=C3) rfl ⟨Fr.refl _ _,rbs1 x rfl rfl (by decide) λb6 u6 e6 _ S6=>⟨Fr.fr e6.e,?_⟩⟩,rbs1 x rfl rfl (by decide) λb6 u6 e6 _ S6=>⟨Fr.fr e6.e,rld (B:=C3) rfl ⟨Fr.refl _ _,?_⟩⟩⟩
 all_goals
  refine rappB ⟨rfl,rfl⟩ (O3.up (w':=u6)) S6 (by have:=e6.e.size;omega) (by simp;omega) λv7 u7 O7 f7=>⟨f7.mono λi _ hi=>.inr hi,?_⟩
  have C7:=(C3.mv (w:=u6)).fro (O3.up (w':=u6)) f7 (by decide)
  have F7:=(O3.up (w':=u6)).wrote f7 (Nat.le_refl _) (show E.qp∈oE by decide)
  have q_:=O7.shape
  obtain⟨a7,c7,rfl⟩:=q_
  refine rsto (B:=C7) (vs:=[.slice a7 (l++[x]).length c7]) rfl rfl rfl (sl_one _ _ _) λu8 C8 f8 _=>⟨f8.mono λi _ hi=>.inl hi,?_⟩
  exact⟨⟨a7,c7,Q.lo,C8,O7.frc f8 C7 (by decide),by simp;omega⟩,((F3.trans (FrT.ext e6.e)).trans F7).trans (C7.wrote f8 Q.lo (by decide))⟩
theorem zLC{b c:Nat}{l:List HitD}(Q:OAt B w b a c l)(hl:l≠[]):
  Sp PP F.p9 #[.pointer (some ⟨b,0,none⟩)] w λv w'=>v=.iface E.qp (agg (atL l (l.length - 1)))/\OAt B w' b a c l.dropLast/\FrT B oE w w':=by
 have hpos:=List.length_pos_iff.2 hl
 have hsz:=Q.size
 have hi:l.length - 1<l.length:=by omega
 have C:=Q.cell;have O:=Q.row
 rw [zAH hi]
 have hcut:=O.cut (m:=l.length - 1) (by omega) hl
 obtain⟨Oc,ga,hga⟩:=hcut
 have hnc:l.length<=c:=by obtain⟨_,_,hv,hc,_⟩:=O.sl;cases hv;exact hc
 have hdl:l.dropLast=l.take (l.length - 1):=List.dropLast_eq_take
 have hdlen:l.dropLast.length=l.length - 1:=by simp
 refine en TBok rfl ?_
 refine rld (B:=C) rfl (rarE (y:=((l.length - 1:Nat):Int)) (by omega) (by omega) (rix O.sl (x:=l[l.length - 1]) (by simp) λb4 o4 A4=>rloadA A4 rfl (ral λb5 u2 n5 z5=>rsto (B:=z5) (vs:=enc l[l.length - 1]) rfl rfl rfl (Enc.one _) λu3 B5 f5 _=>?_)))
 have s3:Stp w u3:=⟨Fr.st Le.e f5 λi hi=>by subst hi;exact n5.lo⟩
 clear z5 f5
 have C3:=C.mv (w:=u3)
 have hb5:b≠b5:=by rintro rfl;have h1:=C3.h;have h2:=B5.h;rw [h1] at h2;cases h2
 refine rarE (y:=((l.length - 1:Nat):Int)) (by omega) (by omega) ?_
 subst hga
 refine rslP (m:=l.length - 1) (by omega) ?_
 refine rsto (B:=C3) (vs:=[.slice (some ⟨ga,0,none⟩) (l.length - 1) c]) rfl rfl rfl (sl_one _ _ _) λu5 C5 f5 _=>?_
 have B6:=B5.fr f5 (Ne.symm hb5)
 refine rldG (ds:=enc l[l.length - 1]) (B:=B6) rfl rfl (rmki ?_)
 have F5:FrT B oE w u5:=(FrT.ext s3.e).trans (C3.wrote f5 Q.lo (by decide))
 refine⟨rfl,⟨Q.lo,by rw [hdlen];exact C5,?_,by omega⟩,F5⟩
 rw [hdlen,hdl]
 exact(Oc.up (w':=u3)).frc f5 C3 (by decide)
theorem zN4:Ord olt:=⟨λx=>by rw [olt_ff];omega,λx y z h k=>by rw [zHo] at *;omega,λx y z h k=>by rw [olt_ff] at *;omega⟩
def OSt (B b:Nat) (l:List HitD) (w:World):Prop:=∃a c,OAt B w b a c l
theorem OSt.up{b:Nat}{l:List HitD}[Le w w'](h:OSt B b l w):OSt B b l w':=by obtain⟨a,c,h⟩:=h;exact⟨a,c,h.up⟩
theorem OAt.ld{b c:Nat}{l:List HitD}(h:OAt B w b a c l):(loadVar E.q1 ⟨b,0,none⟩).run PP w=.ok (.slice a l.length c) w:=
 zCd inferInstance (((h.cell).at (w:=w)).cell0 rfl)
theorem zJo(B b:Nat):HeapI PP E.q3 (.pointer (some ⟨b,0,none⟩)) olt (OSt B b) B oE where
 ord:=zN4
 size:=λ_ _ ⟨_,_,h⟩=>h.size
 len:=λ_ _ ⟨a,c,h⟩=>.v h.ld (zGR.mono λ_ _ ⟨h1,h2⟩=>by subst h2;exact⟨h1,⟨a,c,h⟩,FrT.refl _ _ _⟩)
 less:=λ_ _ _ _ ⟨a,c,h⟩ hi hj=>.v h.ld ((zKe h hi hj).mono λ_ _ ⟨h1,h2⟩=>⟨h1,⟨a,c,h.up⟩,FrT.ext h2.e⟩)
 swap:=λ_ _ _ _ ⟨a,c,h⟩ hi hj=>.v h.ld ((zKg h hi hj).mono λ_ _ ⟨h1,h2⟩=>⟨⟨a,c,h1⟩,h2⟩)
theorem zM2{b:Nat}{l : List HitD}{x : HitD}(h : OSt B b l w)(hl : l.length <= 99999) : InvS PP E.q3 (.pointer (some ⟨b, 0, none⟩)) "Push" [.iface E.qp (agg x)] w λ_ w' => OSt B b (l ++ [x]) w' /\ FrT B oE w w' := by
 obtain⟨a,c,h⟩:=h
 exact .p ((zKf (x:=x) h hl).mono λ_ _ ⟨h1,h2⟩=>⟨h1,h2⟩)
theorem zN6(B b : Nat) : ∀ l w, OSt B b l w -> l ≠ [] -> InvS PP E.q3 (.pointer (some ⟨b, 0, none⟩)) "Pop" [] w λx w' => x = .iface E.qp (agg (atL l (l.length - 1))) /\ OSt B b l.dropLast w' /\ FrT B oE w w' :=
 λ_ _ ⟨a,c,h⟩ hl=>.p ((zLC h hl).mono λ_ _ ⟨h1,h2,h3⟩=>⟨h1,⟨a,c,h2⟩,h3⟩)
theorem zKh{x:RRow}{r:List EdN}(hg:GrIs g)(R:RwF w x g r):
  Sp PP F.qa2 #[agg x] w λv w'=>(∃v' L,v=.tuple #[v',.int .i64 0]/\Own w.heap.size E.qa w' v' (intsN L)/\L.Perm (List.range g.n))/\Stp w w':=by
 have h2:=hg.ok.n2
 have l1:=R.off.len;have l3:=R.rof.len
 have q1:=zAM g.n g.es;have q3:=zAM g.n r
 have hI:=hg.rowI.len
 have hJ:=(hg.rowR R.rev').len
 refine en TBok rfl ?_
 refine rbx λb1 w1 n1 B1=>?_
 have B1:Bk w1 b1 (enc x) E.qq:=B1
 refine rldG (ds:=enc x) (B:=B1) rfl rfl (rcall (zAQ hg (R.up (w':=w1))) ?_)
 rintro _ w2 ⟨rfl,e2⟩
 refine rbs (α:=HitD) (vs:=[]) [] rfl rfl rfl (by decide) λbh w4 n4 S4=>?_
 have t4:Stp w2 w4:=⟨n4.ext⟩
 have OH:Own w.heap.size E.qp w4 (.slice (some ⟨bh,0,none⟩) 0 0) ([]:List HitD):=Own.nil' _ _ _ _
 refine rbx λb w5 n5 B5=>?_
 have hb5:=n5.lo (u:=w)
 have B5:Bk w5 b [.slice (some ⟨bh,0,none⟩) 0 0] E.q1:=B5
 have N5:OAt w.heap.size w5 b (some ⟨bh,0,none⟩) 0 []:=⟨hb5,B5,OH.up (w':=w5),by simp⟩
 refine rmki (rld (B:=B1) rfl (rarE (y:=(g.n:Int)) (by omega) (by omega) ?_))
 refine cnt TBok 20 [5] 19 g.n (λk u=>∃l:List HitD,OSt w.heap.size b l u/\HeapN olt l l.length/\(l.map (·.v)).Perm (intsN (List.range k))/\Bk u b1 (enc x) E.qq/\Stp w u) rfl rfl
  ⟨[],⟨_,_,N5⟩,λc c0 cn=>absurd cn (by simp),.refl _,B1.mv,stp⟩ ?_
 ·rintro k G u hk ⟨l,S,hh,hp,B1,su⟩
  have hll:=hp.length_eq
  rw [List.length_map,zBy,List.length_range] at hll
  refine ite (λhlt=>?_) (λhge=>?_)
  ·have hk1:k<g.n:=by omega
   have m1:=zBc g.es k;have m2:=cLt_le g.es (k+1)
   have m3:=zBc r k;have m4:=cLt_le r (k+1)
   have hDo:∀b',Value.blk (.slice x.off.a x.off.n x.off.c)=some b'->¬(b'≠b1/\w.heap.size<=b'):=λb' h h'=>by
    have:=R.off.blt (by intro h0;rw [h0] at q1;cases q1) h
    omega
   have hDp:∀b',Value.blk (.slice x.rof.a x.rof.n x.rof.c)=some b'->¬(b'≠b1/\w.heap.size<=b'):=λb' h h'=>by
    have:=R.rof.blt (by intro h0;rw [h0] at q3;cases q3) h
    omega
   refine drawR TBok mixed (λi=>i≠b1/\w.heap.size<=i) [0,1,2,3,4,5,6,7,8,9,10,11,12,13,14,15,16,17,18,19,20,21,22,23,24,25,26,27,28,29] (by kernel_rfl) λu1 e1 _=>tld (B:=B1) rfl (λh=>h.1 rfl) (rarE (y:=((k+1:Nat):Int)) (by omega) (by omega) (tix (R.off.up (w':=u1)) (zAk (v:=k+1) (by omega)) λb7 o7 A7 h7=>tload1 (A7.cell0 rfl) (hDo _ h7) (tld (B:=B1) rfl (λh=>h.1 rfl) (tix (R.off.up (w':=u1)) (zAk (v:=k) (by omega)) λb6 o6 A6 h6=>tload1 (A6.cell0 rfl) (hDo _ h6) (rarE (y:=(cLt g.es (k+1):Int) - cLt g.es k) rfl (by omega) (tld (B:=B1) rfl (λh=>h.1 rfl) (rarE (y:=((k+1:Nat):Int)) (by omega) (by omega) (tix (R.rof.up (w':=u1)) (zAk (v:=k+1) (by omega)) λb7 o7 A7 h7=>tload1 (A7.cell0 rfl) (hDp _ h7) (rarE (y:=(cLt g.es (k+1):Int) - cLt g.es k+cLt r (k+1)) rfl (by omega) (tld (B:=B1) rfl (λh=>h.1 rfl) (tix (R.rof.up (w':=u1)) (zAk (v:=k) (by omega)) λb6 o6 A6 h6=>tload1 (A6.cell0 rfl) (hDp _ h6) ?_)))))))))))
   have q_:∃y:HitD,y=⟨(k:Int),(cLt g.es (k+1):Int) - cLt g.es k+cLt r (k+1) - cLt r k⟩:=⟨_,rfl⟩
   obtain⟨y,hy⟩:=q_
   refine rarE (y:=y.d) (by rw [hy]) (by rw [hy];show _/\_;dsimp only;omega) (tbuild (cs:=enc y) (by rw [hy];rfl) (tmki ?_))
   have S1:=S.up (w':=u1)
   refine rcall (zKv (zJo w.heap.size b) (y:=y) S1 (by omega) hh (zM2 S1 (by omega))) ?_
   rintro _ u2 ⟨⟨l2,hp2,S2,hh2⟩,f2⟩
   have t2:Stp w u2:=⟨FrT.st (Le.e (a:=w) (b:=u1)) f2 (Nat.le_refl _)⟩
   refine⟨Fr.mono f2 λi _ hi=>⟨λh=>by subst h;exact absurd (hi.cells (B1.mv (w:=u1)).h) (by decide),hi.1⟩,?_⟩
   refine rA ⟨rfl,hk1,l2,S2,hh2,?_,(B1.mv (w:=u1)).kept f2 (by decide),t2⟩
   have h5:=hp2.map (·.v)
   rw [List.map_append] at h5
   refine(h5.trans (hp.append_right _)).trans ?_
   rw [List.range_succ,zD3,hy]
   exact .refl _
  ·have hkn:k=g.n:=by omega
   rw [hkn] at hp
   refine loop1G TBok 53 [7,8] 6 (λn v u=>∃(out:List Nat) (l':List HitD),l'.length=n/\OSt w.heap.size b l' u/\HeapN olt l' l'.length/\(intsN out++l'.map (·.v)).Perm (intsN (List.range g.n))/\Own w.heap.size E.qa u v (intsN out)/\Stp w u) rfl
    ⟨l.length,[],l,rfl,S,hh,hp,Own.nil _ _ _,su⟩ ?_
   rintro n v G2 u2 ⟨out,l',rfl,S2,hh2,hp2,O2,su2⟩
   have hpl:=hp2.length_eq
   rw [List.length_append,List.length_map,zBy,zBy,List.length_range] at hpl
   obtain⟨a,c,Q⟩:=S2
   refine (InvS.v (P := PP) (t := E.q3) (name := "Len") (vs := []) (f := F.ye) Q.ld zGR).out rfl rfl rfl rfl ?_
   rintro _ _ ⟨rfl,rfl⟩
   refine ite (λhgt=>?_) (λhge2=>?_)
   ·have hne:l'≠[]:=λh=>by rw [h] at hgt;exact absurd hgt (by decide)
    refine rcall (Pop_sp (zJo w.heap.size b) (RX:=λx v=>v=.iface E.qp (agg x)) (zN6 w.heap.size b) ⟨a,c,Q⟩ hne hh2) ?_
    rintro v2 u3 ⟨⟨rfl,l3,hp3,S3,hh3⟩,f3⟩
    have t3:Stp w u3:=⟨FrT.st su2.e f3 (Nat.le_refl _)⟩
    have O3:=O2.kept f3 (by decide)
    have q_:∃k:Nat,(atL l' 0).v=(k:Int):=by
     have h6:(atL l' 0).v∈intsN (List.range g.n):=hp2.mem_iff.1 (List.mem_append_right _ (List.mem_map.2 ⟨_,hp3.mem_iff.1 (List.mem_cons_self ..),rfl⟩))
     have q_:=List.mem_map.1 h6
     obtain⟨k,_,hk⟩:=q_
     exact⟨k,hk.symm⟩
    obtain⟨k0,hk0⟩:=q_
    refine rta (ral λbx u4 n4 X4=>?_)
    have hbx:=n4.lo (u:=u3)
    refine rsto (B:=X4) (vs:=enc (atL l' 0)) rfl rfl rfl (Enc.one _) λu5 X5 f5 _=>?_
    have t5:Stp u3 u5:=⟨Fr.st (Le.e (a:=u3) (b:=u4)) f5 λi hi=>by omega⟩
    have X5:Bk u5 bx (enc (atL l' 0)) E.qp:=X5
    refine rld (B:=X5) (v:=.int .i64 (k0:Int)) (by rw [<-hk0];rfl) (rbs1 (k0:Int) rfl rfl (by decide) λb6 u6 e6 _ S6=>rapp1 (u:=w) ⟨rfl,rfl⟩ ((O3.up (w':=u5)).up (w':=u6)) S6 (by rw [zBy];omega) λv7 u7 O7 f7 s7=>?_)
    have hpl3:=hp3.length_eq
    rw [List.length_cons] at hpl3
    refine⟨l3.length,by omega,out++[k0],l3,rfl,?_,hh3,?_,by rw [zD3];exact O7,stp⟩
    ·obtain⟨a3,c3,Q3⟩:=S3
     have Q5:=(Q3.up (w':=u5)).up (w':=u6)
     exact⟨a3,c3,Q5.lo,Q5.cell.fro ((O3.up (w':=u5)).up (w':=u6)) f7 (by decide),Q5.row.fro ((O3.up (w':=u5)).up (w':=u6)) f7 (by decide),Q5.size⟩
    ·have h6:=hp3.map (·.v)
     rw [List.map_cons,hk0] at h6
     rw [zD3,List.append_assoc]
     exact(List.Perm.append_left _ h6).trans hp2
   ·have hl0:l'=[]:=List.eq_nil_of_length_eq_zero (by omega)
    subst hl0
    rw [List.map_nil,List.append_nil] at hp2
    refine⟨⟨v,out,rfl,O2,?_⟩,su2⟩
    have h7:=hp2.map Int.toNat
    unfold intsN at h7
    rw [List.map_map,List.map_map] at h7
    have e7:(Int.toNat ∘ λx:Nat=>(x:Int))=id:=funext λx=>Int.toNat_natCast x
    rw [e7,List.map_id,List.map_id] at h7
    exact h7
theorem zJa{x:RRow}{r:List EdN}{br v:Nat}{w0:World}[Le w0 w][Le w1 w](hg:GrIs g)(Br:Bk w1 br (enc x) E.qq)(R:RwF w0 x g r)(hv:v<g.n):
  Sp PP F.qf #[.int .i64 (v:Int),.pointer (some ⟨br,0,none⟩)] w λrv w'=>(∃a c,rv=.slice a (nbL g 0 v).length c/\SlF w' (.slice a (nbL g 0 v).length c) (intsN (nbL g 0 v))/\∀b,nbL g 0 v≠[]->Value.blk (.slice a (nbL g 0 v).length c)=some b->b<w0.heap.size)/\Stp w w':=by
 have l1:=R.off.len;have l2:=R.to.len
 have q1:=zAM g.n g.es;have q2:=zA7 g.es
 have h2:=hg.rowI.n2
 refine en TBok rfl ?_
 refine drawR TBok mixed (λ_=>False) [0,1,2,3,4,5,6,7,8,9,10,11,12,13,14] (by kernel_rfl) λw5 e5 _=>?_
 have hm:=zBc g.es v
 have hle:=cLt_le g.es (v+1)
 refine tld (B:=Br) rfl nf (tld (B:=Br) rfl nf ?_)
 refine tix (R.off.up (w':=w5)) (zAk (v:=v) (by omega)) λb6 o6 A6 _=>tload1 (A6.cell0 rfl) nf (tld (B:=Br) rfl nf (rarE (y:=((v+1:Nat):Int)) (by omega) (by omega) (tix (R.off.up (w':=w5)) (zAk (v:=v+1) (by omega)) λb7 o7 A7 _=>tload1 (A7.cell0 rfl) nf ?_)))
 have SR:=R.to.up (w':=w5)
 refine tslD (cLt g.es v) (cLt g.es (v+1)) SR hm (by omega) ?_
 have seg:=SR.part (cLt g.es v) (cLt g.es (v+1)) hm (by omega)
 rw [zDG hg.rowI.ris v] at seg
 have e7:toL (atV g.es v)=intsN (nbL g 0 v):=by rw [zJG];unfold toL intsN rowN;rw [List.map_map];rfl
 rw [e7] at seg
 have e8:cLt g.es (v+1) - cLt g.es v=(nbL g 0 v).length:=by
  have:=seg.len
  rw [this];simp [intsN]
 rw [e8] at seg
 refine⟨⟨_,_,congrArg (λn=>Value.slice _ n _) e8,seg,λb hne hb=>?_⟩,stp⟩
 have h1:=(zIO x.to.a x.to.n _ x.to.c _ _ _).symm.trans hb
 have h3:0<(nbL g 0 v).length:=List.length_pos_iff.2 hne
 have h7:toL g.es≠[]:=by
  intro h0
  have h6:(toL g.es).length=0:=by rw [h0];rfl
  omega
 have h8:=R.to.lt h7
 obtain⟨b',h4,h5⟩:=h8
 rw [h4] at h1
 have:=Option.some.inj h1
 omega
theorem zJb{x:RRow}{r:List EdN}{br v:Nat}{w0:World}[Le w0 w][Le w1 w](hg:GrIs g)(Br:Bk w1 br (enc x) E.qq)(R:RwF w0 x g r)(hv:v<g.n):
  Sp PP F.qg #[.int .i64 (v:Int),.pointer (some ⟨br,0,none⟩)] w λrv w'=>(∃a c,rv=.slice a (nbL g 1 v).length c/\SlF w' (.slice a (nbL g 1 v).length c) (intsN (nbL g 1 v))/\∀b,nbL g 1 v≠[]->Value.blk (.slice a (nbL g 1 v).length c)=some b->b<w0.heap.size)/\Stp w w':=by
 have l1:=R.rof.len;have l2:=R.rev.len
 have q1:=zAM g.n r;have q2:=zA7 r
 have hJ:=hg.rowR R.rev'
 have h2:=hJ.n2
 refine en TBok rfl ?_
 refine drawR TBok mixed (λ_=>False) [0,1,2,3,4,5,6,7,8,9,10,11,12,13,14] (by kernel_rfl) λw5 e5 _=>?_
 have hm:=zBc r v
 have hle:=cLt_le r (v+1)
 refine tld (B:=Br) rfl nf (tld (B:=Br) rfl nf ?_)
 refine tix (R.rof.up (w':=w5)) (zAk (v:=v) (by omega)) λb6 o6 A6 _=>tload1 (A6.cell0 rfl) nf (tld (B:=Br) rfl nf (rarE (y:=((v+1:Nat):Int)) (by omega) (by omega) (tix (R.rof.up (w':=w5)) (zAk (v:=v+1) (by omega)) λb7 o7 A7 _=>tload1 (A7.cell0 rfl) nf ?_)))
 have SR:=R.rev.up (w':=w5)
 refine tslD (cLt r v) (cLt r (v+1)) SR hm (by omega) ?_
 have seg:=SR.part (cLt r v) (cLt r (v+1)) hm (by omega)
 rw [zDG hJ.ris v] at seg
 have e7:toL (atV r v)=intsN (nbL g 1 v):=by rw [zK4 hg.er R.rev'];unfold toL intsN rowN;rw [List.map_map];rfl
 rw [e7] at seg
 have e8:cLt r (v+1) - cLt r v=(nbL g 1 v).length:=by
  have:=seg.len
  rw [this];simp [intsN]
 rw [e8] at seg
 refine⟨⟨_,_,congrArg (λn=>Value.slice _ n _) e8,seg,λb hne hb=>?_⟩,stp⟩
 have h1:=(zIO x.rev.a x.rev.n _ x.rev.c _ _ _).symm.trans hb
 have h3:0<(nbL g 1 v).length:=List.length_pos_iff.2 hne
 have h7:toL r≠[]:=by
  intro h0
  have h6:(toL r).length=0:=by rw [h0];rfl
  omega
 have h8:=R.rev.lt h7
 obtain⟨b',h4,h5⟩:=h8
 rw [h4] at h1
 have:=Option.some.inj h1
 omega
section
variable {P:Program} {T:Tab} {n:Nat} {Q:KS} {F0:Nat->Value} {w:World}
theorem cutR1{ops:Array Oper}(m:Nat)(exc:List Nat)(s1:Nat)(I:Value->World->Prop)(hok:okB m exc [s1] (.region i ops true)=true)(hx:DeepS P T n (.region i ops true) { Q with nrm:=λF' w'=>I (F' s1) w' } F0 w)
  (hy:∀v1 g w',I v1 w'->Q.nrm (hdF m exc [(s1,v1)] g F0) w'):DeepS P T n (.region i ops true) Q F0 w:=
 cut1 (c:=.seq (.region i ops true) .skip) (y:=.skip) m exc s1 I rfl hok hx hy
theorem cutR2{ops:Array Oper}(m:Nat)(exc:List Nat)(s1 s2:Nat)(I:Value->Value->World->Prop)(hok:okB m exc [s1,s2] (.region i ops true)=true)(hx:DeepS P T n (.region i ops true) { Q with nrm:=λF' w'=>I (F' s1) (F' s2) w' } F0 w)
  (hy:∀v1 v2 g w',I v1 v2 w'->Q.nrm (hdF m exc [(s1,v1),(s2,v2)] g F0) w'):DeepS P T n (.region i ops true) Q F0 w:=
 cut2 (c:=.seq (.region i ops true) .skip) (y:=.skip) m exc s1 s2 I rfl hok hx hy
end
section
variable {B bl n:Nat} {gb:Bool->Nat} {X:Bool->List SV} {L:Bool->Nat->List HitD} {w w':World}
theorem LabM.ne(M:LabM B bl n gb X L w)(hn:0<n){b:Nat}{cs:Array Value}{e:TypeId}{z:Nat×Nat}(h:w.heap[b]? = some (.cells cs e z))(hne:e≠E.qo):¬gX gb b:=by
 have go:∀s,b≠gb s:=λs hb=>by
  obtain⟨g,cur,h2,_,_,h3,_⟩:=(M.row s).blk (by intro h0;have:=M.len s;rw [h0] at this;simp at this;omega)
  injection h2 with h2
  injection h2 with h2
  subst h2 hb
  rw [h3] at h
  injection h with h
  injection h with _ h
  exact hne h.symm
 rintro(h|h)
 ·exact go true h
 ·exact go false h
def curL (L:Bool->Nat->List HitD) (s:Bool) (h:Nat) (A:Nat->Option Nat):Bool->Nat->List HitD:=λs' v=>if s'=s then addR h A (L s) v else L s' v
theorem zHF(s:Bool)(h:Nat):curL L s h (λ_=>none)=L:=by
 funext s' v
 unfold curL addR
 by_cases e:s'=s
 ·subst e;rw [if_pos rfl]
 ·rw [if_neg e]
theorem zHc{s:Bool}{h v:Nat}{A:Nat->Option Nat}(hA:A v=none):curL L s h A s v=L s v:=by
 unfold curL addR;rw [if_pos rfl,hA]
theorem zMM{s:Bool}{h v d:Nat}{A A':Nat->Option Nat}(hA:A v=none)(hA':∀u,A' u=if u=v then some d else A u):setL (curL L s h A) s v (curL L s h A s v++[⟨(h:Int),(d:Int)⟩])=curL L s h A':=by
 funext s' v'
 unfold setL
 by_cases e:(s',v')=(s,v)
 ·injection e with e1 e2
  subst e1 e2
  rw [if_pos rfl,zHc hA]
  unfold curL addR
  rw [if_pos rfl,hA',if_pos rfl]
 ·rw [if_neg e]
  unfold curL
  by_cases e1:s'=s
  ·subst e1
   have e2:v'≠v:=λe2=>e (by rw [e2])
   rw [if_pos rfl,if_pos rfl]
   unfold addR
   rw [hA',if_neg e2]
  ·rw [if_neg e1,if_neg e1]
structure HubT (w:World) (x:RRow) (g:GrD) (B bl br:Nat) (gb bc:Bool->Nat) (h:Nat) (c:Bool->SV) (K:Bool->List HitD) (L:Bool->Nat->List HitD) (s:Bool) (A:Nat->Option Nat) (u:World) (X:Bool->List SV):Prop where
 M:LabM B bl g.n gb X (curL L s h A) u
 C:∀s',CapM X s' h (c s') (K s') u
 a:A h=none->(X s)[h]? = some (c s)
 o:s=false->(X true)[h]? = some (c true)
 bc:∀s',Bk u (bc s') [(c s').v] E.qo
 br:Bk u br (enc x) E.qq
 st:Ext w u
theorem HubT.src{w W:World}[Le w W]{x:RRow}{r:List EdN}{B bl br h:Nat}{gb bc:Bool->Nat}{c:Bool->SV}{K:Bool->List HitD}{L:Bool->Nat->List HitD}{s:Bool}(hg:GrIs g)(R:RwF w x g r)(hh:h<g.n)(hB:B<=w.heap.size)(hwB:w.heap.size<=B)(hbc:∀s',¬gX gb (bc s')/\bc s'<W.heap.size)(hbr:br<W.heap.size)
  (hgb:∀i,gX gb i->i<W.heap.size)(hK:K s=L s h)(hL:∀v,HitB (L s v))(hK2:HitB (K (!s))):
  SrC g (if s then 1 else 0) h (λv d=>if s then Lea (L s v) (K (!s)) d else Lea (K (!s)) (L s v) d) (if s then F.qg else F.qf) (if s then F.qb else F.qa) (if s then F.q0 else F.qz)
   [.pointer (some ⟨br,0,none⟩)] [.pointer (some ⟨bl,0,none⟩)] (if s then [.pointer (some ⟨bl,0,none⟩),.pointer (some ⟨bc false,0,none⟩)] else [.pointer (some ⟨bc true,0,none⟩),.pointer (some ⟨bl,0,none⟩)]) B (gX gb) W
   (λA u=>W.heap.size<=u.heap.size/\∃X,HubT w x g B bl br gb bc h c K L s A u X):=by
 have h2:=hg.ok.n2
 have zW:=Le.size (a:=w) (b:=W)
 refine⟨?_,?_,?_,?_,hgb⟩
 ·rintro A u v ⟨zu,X,H⟩ hv
  have su:Stp w u:=⟨H.st⟩
  cases s with
  |false =>
   refine(zJa (w0:=w) (w1:=u) hg H.br R hv).mono ?_
   rintro _ u2 ⟨⟨a,c,rfl,h1,h3⟩,e⟩
   exact⟨⟨a,c,rfl,h1,λb hne hb=>Nat.lt_of_lt_of_le (h3 b hne hb) zW⟩,e⟩
  |true =>
   refine(zJb (w0:=w) (w1:=u) hg H.br R hv).mono ?_
   rintro _ u2 ⟨⟨a,c,rfl,h1,h3⟩,e⟩
   exact⟨⟨a,c,rfl,h1,λb hne hb=>Nat.lt_of_lt_of_le (h3 b hne hb) zW⟩,e⟩
 ·rintro A u v d ⟨zu,X,H⟩ hv hd hA
  have q:=zHc (L:=L) (s:=s) (h:=h) hA
  cases s with
  |false =>
   refine(zFL H.M h2 (s:=false) hv hd (H.C true) (H.bc true) (by rw [q];exact hL v) hK2 (.inl ⟨rfl,rfl,rfl⟩)).mono ?_
   rintro r u2 ⟨⟨b,rfl,hb⟩,e⟩
   rw [q] at hb
   exact⟨⟨b,rfl,hb⟩,e⟩
  |true =>
   refine(zFL H.M h2 (s:=true) hv hd (H.C false) (H.bc false) (by rw [q];exact hL v) hK2 (.inr ⟨rfl,rfl,rfl⟩)).mono ?_
   rintro r u2 ⟨⟨b,rfl,hb⟩,e⟩
   rw [q] at hb
   exact⟨⟨b,rfl,hb⟩,e⟩
 ·rintro A u v d ⟨zu,X,H⟩ hv hd hA
  have q:=zHc (L:=L) (s:=s) (h:=h) hA
  have hD:=zLy H.M (by omega) hv h2 (⟨(h:Int),(d:Int)⟩:HitD) (s:=s) (by rw [q];exact(hL v).1) (fn:=if s then F.qb else F.qa) (by cases s;exact .inl ⟨rfl,rfl⟩;exact .inr ⟨rfl,rfl⟩)
  refine hD.mono ?_
  rintro r u2 ⟨⟨z,M2,hC⟩,f⟩
  refine⟨⟨λu=>if u=v then some d else A u,λ_=>rfl,by have:=f.size;omega,setX X s v z,⟨?_,λs'=>hC s' h (c s') (K s') (H.C s') λe=>?_,λe=>?_,λe=>?_,λs'=>(H.bc s').keptX f (hbc s').1 (by decide),H.br.keptX f (H.M.ne (by omega) H.br.h (by decide)) (by decide),?_⟩⟩,f⟩
  ·rw [zMM hA λ_=>rfl] at M2;exact M2
  ·injection e with e1 e2
   subst e1 e2
   exact⟨H.a hA,by rw [q];exact hK⟩
  ·by_cases e2:h=v
   ·rw [if_pos e2] at e;cases e
   ·rw [if_neg e2] at e
    rw [zBG λe3=>e2 (by injection e3)]
    exact H.a e
  ·rw [zBG λe3=>by injection e3 with e3;rw [<-e3] at e;cases e]
   exact H.o e
  ·refine Fr.st H.st f λi hi=>?_
   rcases hi with hi|hi
   ·have:=(H.M.gx true (by omega)).2;have:=(H.M.gx false (by omega)).2
    rcases hi with hi|hi <;> omega
   ·have:=hi.1;omega
 ·rintro A u u' ⟨zu,X,H⟩ f
  exact⟨by have:=f.size;omega,X,⟨H.M.kept f (by decide) (by decide) (by decide),λs'=>(H.C s').kept f (by decide),H.a,H.o,λs'=>(H.bc s').kept f (by decide),H.br.kept f (by decide),Fr.st H.st f λi hi=>by have:=hi.1;omega⟩⟩
theorem hb_of{l:List HitD}(hn:g.n<=200)(h:∀e∈l,∃m d:Nat,e=⟨(m:Int),(d:Int)⟩/\m<g.n/\d<g.n)(nd:(l.map (·.v)).Nodup):HitB l:=by
 refine⟨?_,λe he=>?_⟩
 ·have h1:(l.map λe=>e.v.toNat).Nodup:=by
   unfold List.Nodup at nd ⊢
   rw [List.pairwise_map] at nd ⊢
   refine nd.imp_of_mem λ{a b} ha hb hne e=>hne ?_
   have q_:=h a ha
   obtain⟨m,d,rfl,_⟩:=q_
   have q_:=h b hb
   obtain⟨m',d',rfl,_⟩:=q_
   dsimp only at e ⊢
   omega
  have h2:=zCL (n:=g.n) h1 λx hx=>by
   have q_:=List.mem_map.1 hx
   obtain⟨e,he,rfl⟩:=q_
   have q_:=h e he
   obtain⟨m,d,rfl,h3,_⟩:=q_
   dsimp only;omega
  rw [List.length_map] at h2
  omega
 ·have q_:=h e he
  obtain⟨m,d,rfl,h3,h4⟩:=q_
  dsimp only;omega
theorem LabI.hb{hs:List Nat}{Out In:Nat->List HitD}(I:LabI g hs Out In)(hn:g.n<=200)(v:Nat):HitB (Out v)/\HitB (In v):=
 ⟨hb_of hn (λe he=>by obtain⟨m,d,h1,_,h2,h3,_⟩:=I.so v e he;exact⟨m,d,h1,h2,h3⟩) (I.no v),hb_of hn (λe he=>by obtain⟨m,d,h1,_,h2,h3,_⟩:=I.si v e he;exact⟨m,d,h1,h2,h3⟩) (I.ni v)⟩
theorem two_sl(a b:Option Addr)(n m c d:Nat):∀u∈[Value.slice a n c,.slice b m d],u.oneCell'=true:=by intro u hu;simp at hu;rcases hu with rfl|rfl <;> rfl
theorem two_fn(f f':Fn)(a b c d:Array Value):∀u∈[Value.func f a b,.func f' c d],u.oneCell'=true:=by intro u hu;simp at hu;rcases hu with rfl|rfl <;> rfl
theorem zHg{x:RRow}{r:List EdN}{w:World}(hg:GrIs g)(R:RwF w x g r):
  Sp PP F.ce #[agg x] w λv w'=>(∃gb bl X L hs,v=.tuple #[.agg #[.slice (some ⟨gb true,0,none⟩) g.n g.n,.slice (some ⟨gb false,0,none⟩) g.n g.n],.int .i64 0]/\LabM w.heap.size bl g.n gb X L w'/\(∀v,v<g.n->v∈hs)/\LabI g hs (L true) (L false))/\Stp w w':=by
 have h2:=hg.ok.n2
 refine en TBok rfl ?_
 refine rbx λbr w1 n1 B1=>?_
 have B1:Bk w1 br (enc x) E.qq:=B1
 have hbr:=n1.lo (u:=w)
 refine ral λbz w2 n2 Z2=>?_
 have hbz:=n2.lo (u:=w)
 have Zlt:=Z2.lt
 refine rldG (ds:=enc x) (B:=B1) rfl rfl (rcall (zAQ hg (R.up (w':=w2))) ?_)
 rintro _ w3 ⟨rfl,e3⟩
 refine rldG (ds:=enc x) (B:=B1) rfl rfl (rcall (zKh hg (R.up (w':=w3))) ?_)
 rintro _ w4 ⟨⟨vh,hs,rfl,OH,hp⟩,e4⟩
 refine iF (· rfl) ?_
 have hlen:hs.length=g.n:=by rw [hp.length_eq,List.length_range]
 have hil:(intsN hs).length=g.n:=by rw [zBy];exact hlen
 have q_:=OH.shape
 obtain⟨ah,ch,hv⟩:=q_
 rw [hil] at hv
 subst hv
 have z4:=Le.size (a:=w) (b:=w4)
 refine cutR1 29 [] 7 (λv u=>∃go gi bl,v=.pointer (some ⟨bl,0,none⟩)/\go≠gi/\w4.heap.size<=bl/\Own w.heap.size E.qo u (.slice (some ⟨go,0,none⟩) g.n g.n) (List.replicate g.n (⟨none,0,0⟩:SV))/\Own w.heap.size E.qo u (.slice (some ⟨gi,0,none⟩) g.n g.n) (List.replicate g.n (⟨none,0,0⟩:SV)) /\
  Bk u bl [.slice (some ⟨go,0,none⟩) g.n g.n,.slice (some ⟨gi,0,none⟩) g.n g.n] E.qs/\Stp w4 u) rfl ?_ ?_
 ·refine drawRT TBok mixed (λi=>w4.heap.size<=i) (.one 0 (.one 2 (.tri 1 (.duo 3 (.one 4 (.lone 5 (.lone 6 .nil))) 5 (.lone 3 (.one 4 (.lone 6 .nil)))) 3 (.duo 1 (.one 4 (.lone 5 (.lone 6 .nil))) 5 (.lone 1 (.one 4 (.lone 6 .nil)))) 5 (.duo 1 (.lone 3 (.one 4 (.lone 6 .nil))) 3 (.lone 1 (.one 4 (.lone 6 .nil))))))) (by kernel_rfl) λu e _=>?_
  have z5:=Le.size (a:=w4) (b:=u)
  have hrn:List.replicate g.n (⟨none,0,0⟩:SV)≠[]:=by
   intro h
   have h3:=congrArg List.length h
   rw [List.length_replicate] at h3
   have h4:g.n=0:=h3
   have:=hg.ok.n1
   omega
  refine⟨rmk (α:=SV) ⟨none,0,0⟩ rfl rfl (by omega) λgo uA Og suA hgo=>⟨Fr.fr suA.e,⟨rmk (α:=SV) ⟨none,0,0⟩ rfl rfl (by omega) λgi uB Oi suB hgi=>⟨Fr.fr suB.e,tbuild (cs:=[.slice (some ⟨go,0,none⟩) g.n g.n,.slice (some ⟨gi,0,none⟩) g.n g.n]) rfl (ral λbl uC nl Zl=>⟨Fr.fr nl.e,?_⟩)⟩,ral λbl uB nl Zl=>⟨Fr.fr nl.e,rmk (α:=SV) ⟨none,0,0⟩ rfl rfl (by omega) λgi uC Oi suC hgi=>⟨Fr.fr suC.e,tbuild (cs:=[.slice (some ⟨go,0,none⟩) g.n g.n,.slice (some ⟨gi,0,none⟩) g.n g.n]) rfl (?_)⟩⟩⟩⟩,rmk (α:=SV) ⟨none,0,0⟩ rfl rfl (by omega) λgi uA Oi suA hgi=>⟨Fr.fr suA.e,⟨rmk (α:=SV) ⟨none,0,0⟩ rfl rfl (by omega) λgo uB Og suB hgo=>⟨Fr.fr suB.e,tbuild (cs:=[.slice (some ⟨go,0,none⟩) g.n g.n,.slice (some ⟨gi,0,none⟩) g.n g.n]) rfl (ral λbl uC nl Zl=>⟨Fr.fr nl.e,?_⟩)⟩,ral λbl uB nl Zl=>⟨Fr.fr nl.e,rmk (α:=SV) ⟨none,0,0⟩ rfl rfl (by omega) λgo uC Og suC hgo=>⟨Fr.fr suC.e,tbuild (cs:=[.slice (some ⟨go,0,none⟩) g.n g.n,.slice (some ⟨gi,0,none⟩) g.n g.n]) rfl (?_)⟩⟩⟩⟩,ral λbl uA nl Zl=>⟨Fr.fr nl.e,⟨rmk (α:=SV) ⟨none,0,0⟩ rfl rfl (by omega) λgo uB Og suB hgo=>⟨Fr.fr suB.e,rmk (α:=SV) ⟨none,0,0⟩ rfl rfl (by omega) λgi uC Oi suC hgi=>⟨Fr.fr suC.e,tbuild (cs:=[.slice (some ⟨go,0,none⟩) g.n g.n,.slice (some ⟨gi,0,none⟩) g.n g.n]) rfl (?_)⟩⟩,rmk (α:=SV) ⟨none,0,0⟩ rfl rfl (by omega) λgi uB Oi suB hgi=>⟨Fr.fr suB.e,rmk (α:=SV) ⟨none,0,0⟩ rfl rfl (by omega) λgo uC Og suC hgo=>⟨Fr.fr suC.e,tbuild (cs:=[.slice (some ⟨go,0,none⟩) g.n g.n,.slice (some ⟨gi,0,none⟩) g.n g.n]) rfl (?_)⟩⟩⟩⟩⟩
  all_goals
   have l1:=Og.lt hrn
   have l2:=Oi.lt hrn
   obtain⟨_,j1,_,l1⟩:=l1
   obtain⟨_,j2,_,l2⟩:=l2
   have j1:=Option.some.inj j1
   have j2:=Option.some.inj j2
   simp only at j1 j2
   have zA:=Le.size (a:=u) (b:=uA)
   have zB:=Le.size (a:=uA) (b:=uB)
   have zC:=Le.size (a:=uB) (b:=uC)
   have hbl:=nl.lo (u:=w4)
   have Og':=(Og.mono (B':=w.heap.size) (Nat.le_trans z4 (Le.size (a:=w4)))).up (w':=uC)
   have Oi':=(Oi.mono (B':=w.heap.size) (Nat.le_trans z4 (Le.size (a:=w4)))).up (w':=uC)
   have Zl':=Zl.mv (w:=uC)
   refine rsto (B:=Zl') (vs:=[.slice (some ⟨go,0,none⟩) g.n g.n,.slice (some ⟨gi,0,none⟩) g.n g.n]) rfl rfl rfl (two_sl _ _ _ _ _ _) λuD BD fD _=>⟨fD.mono λi _ hi=>by omega,?_⟩
   have tD:Stp w4 uD:=⟨Fr.st (Le.e (a:=w4) (b:=uC)) fD λi hi=>by omega⟩
   exact⟨go,gi,bl,rfl,by omega,hbl,Og'.frc fD Zl' (by decide),Oi'.frc fD Zl' (by decide),BD,tD⟩
 rintro _ G5 w5 ⟨go,gi,bl,rfl,hgi,hbl,OG,OI,BL,t5⟩
 have q_:∃gb:Bool->Nat,gb true=go/\gb false=gi:=⟨λb=>if b then go else gi,rfl,rfl⟩
 obtain⟨gb,rfl,rfl⟩:=q_
 have z5:=t5.e.size
 refine rbuild (cs:=[.func (.func F.qf) #[] #[.pointer (some ⟨br,0,none⟩)],.func (.func F.qa) #[] #[.pointer (some ⟨bl,0,none⟩)]]) rfl (ral λb8 w6 n6 X6=>?_)
 have hb8:=n6.lo (u:=w5)
 refine rsto (B:=X6) (vs:=[.func (.func F.qf) #[] #[.pointer (some ⟨br,0,none⟩)],.func (.func F.qa) #[] #[.pointer (some ⟨bl,0,none⟩)]]) rfl rfl rfl (two_fn _ _ _ _ _ _) λw7 X7 f7 _=>?_
 have X7:Bk w7 b8 [.func (.func F.qf) #[] #[.pointer (some ⟨br,0,none⟩)],.func (.func F.qa) #[] #[.pointer (some ⟨bl,0,none⟩)]] E.qw:=X7
 have t7:Stp w5 w7:=⟨Fr.st (Le.e (a:=w5) (b:=w6)) f7 λi hi=>by omega⟩
 refine rbuild (cs:=[.func (.func F.qg) #[] #[.pointer (some ⟨br,0,none⟩)],.func (.func F.qb) #[] #[.pointer (some ⟨bl,0,none⟩)]]) rfl (ral λb9 w8 n8 X8=>?_)
 have hb9:=n8.lo (u:=w7)
 refine rsto (B:=X8) (vs:=[.func (.func F.qg) #[] #[.pointer (some ⟨br,0,none⟩)],.func (.func F.qb) #[] #[.pointer (some ⟨bl,0,none⟩)]]) rfl rfl rfl (two_fn _ _ _ _ _ _) λw9 X9 f9 _=>?_
 have X9:Bk w9 b9 [.func (.func F.qg) #[] #[.pointer (some ⟨br,0,none⟩)],.func (.func F.qb) #[] #[.pointer (some ⟨bl,0,none⟩)]] E.qw:=X9
 have t9:Stp w7 w9:=⟨Fr.st (Le.e (a:=w7) (b:=w8)) f9 λi hi=>by omega⟩
 have rep:∀(v:Nat) (z:SV),(List.replicate g.n (⟨none,0,0⟩:SV))[v]? = some z->z=⟨none,0,0⟩:=λv z h=>by
  rw [List.getElem?_replicate] at h
  split at h
  ·exact(Option.some.inj h).symm
  ·cases h
 have M9:LabM w.heap.size bl g.n gb (λ_=>List.replicate g.n (⟨none,0,0⟩:SV)) (λ_ _=>[]) w9:=by
  refine⟨by omega,(BL.mv (w:=w7)).mv (w:=w9),λs=>?_,λs=>by simp,hgi,λs v z h=>?_,λs v z b h hb=>?_,λs v z s' v' z' h h' hne b hb=>?_⟩
  ·cases s
   ·exact(OI.up (w':=w7)).up (w':=w9)
   ·exact(OG.up (w':=w7)).up (w':=w9)
  ·rw [rep v z h];exact Own.nil _ _ _
  ·rw [rep v z h] at hb;cases hb
  ·rw [rep v z h] at hb;cases hb
 have OH9:Own w.heap.size E.qa w9 (.slice ah g.n ch) (intsN hs):=((OH.mono (B':=w.heap.size) (Le.size (a:=w))).up (w':=w5)).up (w':=w9)
 have B9:=B1.mv (w:=w9)
 have Z9:=Z2.mv (w:=w9)
 have X79:=X7.mv (w:=w9)
 have tw9:Stp w w9:=stp
 clear OG OI BL OH B1 Z2
 refine cnt TBok 43 [10,11,12,13] 42 g.n (λk u=>∃X L,LabM w.heap.size bl g.n gb X L u/\LabI g (hs.take k) (L true) (L false)/\Bk u b8 [.func (.func F.qf) #[] #[.pointer (some ⟨br,0,none⟩)],.func (.func F.qa) #[] #[.pointer (some ⟨bl,0,none⟩)]] E.qw /\
   Bk u b9 [.func (.func F.qg) #[] #[.pointer (some ⟨br,0,none⟩)],.func (.func F.qb) #[] #[.pointer (some ⟨bl,0,none⟩)]] E.qw/\Bk u br (enc x) E.qq/\Bk u bz [.slice none 0 0,.slice none 0 0] E.qs/\Own w.heap.size E.qa u (.slice ah g.n ch) (intsN hs)/\Stp w u) rfl rfl
  ⟨_,_,M9,LabI.nil,X79,X9,B9,Z9,OH9,tw9⟩ ?_
 rintro k G u hk ⟨X,L,M,I,X8,X9,Br,Bz,OH,su⟩
 have zu:=su.e.size
 refine ite (λhlt=>?_) (λhge=>?_)
 ·have hk1:k<hs.length:=by omega
  have q_:∃h,h=hs[k]:=⟨_,rfl⟩
  obtain⟨h,hh⟩:=q_
  have hhn:h<g.n:=by
   have:h∈List.range g.n:=hp.mem_iff.1 (by rw [hh];exact List.getElem_mem hk1)
   exact List.mem_range.1 this
  have hnd:hs.Nodup:=hp.nodup_iff.2 List.nodup_range
  have hhq:h∉hs.take k:=by rw [hh];exact zJj hnd hk1
  have htk:hs.take (k+1)=hs.take k++[h]:=by rw [zAa hk1,hh]
  have hhi:(intsN hs)[k]? = some (h:Int):=by rw [hh];exact zF8 hk1
  have hXt:(X true)[h]? = some ((X true)[h]'(by rw [M.len];exact hhn)):=by simp
  have hXf:(X false)[h]? = some ((X false)[h]'(by rw [M.len];exact hhn)):=by simp
  have q_:∃c:Bool->SV,(X true)[h]? = some (c true)/\(X false)[h]? = some (c false):=⟨λb=>if b then _ else _,hXt,hXf⟩
  obtain⟨c,hct,hcf⟩:=q_
  clear hXt hXf
  refine rix (i:=k) OH.sl hhi λb4 o4 A4=>rload1 (A4.cell0 rfl) (cutR2 46 [] 12 13 (λv1 v2 u2=>∃bo bi,v1=.pointer (some ⟨bo,0,none⟩)/\v2=.pointer (some ⟨bi,0,none⟩)/\u.heap.size<=bo/\u.heap.size<=bi/\Bk u2 bo [(c true).v] E.qo/\Bk u2 bi [(c false).v] E.qo/\Stp u u2) rfl ?_ ?_)
  ·refine drawRT TBok mixed (λi=>u.heap.size<=i) (.one 0 (.one 1 (.one 2 (.one 3 (.one 4 (.one 5 (.one 6 (.one 7 (.one 8 (.one 9 (.two 10 (.one 11 (.one 12 (.one 13 .nil))) 11 (.one 10 (.one 12 (.one 13 .nil)))))))))))))) (by kernel_rfl) λu1 e1 _=>?_
   have nl:∀{b:Nat},b<u.heap.size->¬u.heap.size<=b:=λh h'=>by omega
   refine tld (B:=M.cell) rfl (nl M.cell.lt) (tix (i:=h) (((M.row true).up (w':=u1)).sl) hct λb5 o5 A5 h5=>tload1 (A5.cell0 rfl) (nl (by have:=Option.some.inj h5;simp only at this;have:=(M.gx true (by omega)).1;omega)) (tld (B:=M.cell) rfl (nl M.cell.lt) (tix (i:=h) (((M.row false).up (w':=u1)).sl) hcf λb6 o6 A6 h6=>tload1 (A6.cell0 rfl) (nl (by have:=Option.some.inj h6;simp only at this;have:=(M.gx false (by omega)).1;omega)) ?_)))
   refine⟨ral λbo v1 m1 Bo=>⟨Fr.fr m1.e,ral λbi v2 m2 Bi=>⟨Fr.fr m2.e,?_⟩⟩,ral λbi v1 m2 Bi=>⟨Fr.fr m2.e,ral λbo v2 m1 Bo=>⟨Fr.fr m1.e,?_⟩⟩⟩
   all_goals
    have i1:=m1.lo (u:=u)
    have i2:=m2.lo (u:=u)
    have l1:=Bo.lt
    have l2:=Bi.lt
    have i3:=m1.b
    have i4:=m2.b
    have i5:=m1.s
    have i6:=m2.s
    have hne:bo≠bi:=by omega
    refine rsto (B:=Bo.mv (w:=v2)) (vs:=[(c true).v]) rfl rfl rfl (by intro u hu;simp at hu;subst hu;exact one_sv _) λv3 Bo3 f3 _=>⟨f3.mono λi _ hi=>by omega,?_⟩
    refine rsto (B:=(Bi.mv (w:=v2)).fr f3 (λh=>hne h.symm)) (vs:=[(c false).v]) rfl rfl rfl (by intro u hu;simp at hu;subst hu;exact one_sv _) λv4 Bi4 f4 _=>⟨f4.mono λi _ hi=>by omega,?_⟩
    have t4:Stp u v4:=⟨Fr.st (Fr.st (Le.e (a:=u) (b:=v2)) f3 λi hi=>by omega) f4 λi hi=>by omega⟩
    exact⟨bo,bi,rfl,rfl,i1,i2,Bo3.fr f4 hne,Bi4,t4⟩
  rintro _ _ G2 u2 ⟨bo,bi,rfl,rfl,hbo,hbi,Bo,Bi,t2⟩
  have z2:=t2.e.size
  have q_:∃bc:Bool->Nat,bc true=bo/\bc false=bi:=⟨λb=>if b then bo else bi,rfl,rfl⟩
  obtain⟨bc,rfl,rfl⟩:=q_
  have q_:∃K:Bool->List HitD,K true=L true h/\K false=L false h:=⟨λb=>L b h,rfl,rfl⟩
  obtain⟨K,hKt,hKf⟩:=q_
  have M2:=M.up (w':=u2)
  have g1:=M.gx true (by omega)
  have g0:=M.gx false (by omega)
  have hgx:∀i,gX gb i->i<u.heap.size:=λi hi=>by rcases hi with rfl|rfl;exact g1.1;exact g0.1
  have hbc:∀s,¬gX gb (bc s)/\bc s<u2.heap.size:=λs=>by
   have l1:=Bo.lt
   have l2:=Bi.lt
   cases s
   ·exact⟨λh=>by have:=hgx _ h;omega,l2⟩
   ·exact⟨λh=>by have:=hgx _ h;omega,l1⟩
  have hb:=I.hb h2
  have Cp:∀s,CapM X s h (c s) (K s) u2:=λs=>by
   cases s
   ·rw [hKf];exact M2.cap hcf
   ·rw [hKt];exact M2.cap hct
  have Bc:∀s,Bk u2 (bc s) [(c s).v] E.qo:=λs=>by
   cases s
   ·exact Bi
   ·exact Bo
  have tw2:Stp w u2:=stp
  have H0:HubT w x g w.heap.size bl br gb bc h c K L false (λ_=>none) u2 X:=⟨by rw [zHF];exact M2,Cp,λ_=>hcf,λ_=>hct,Bc,Br.mv,tw2.e⟩
  have C0:SrC g 0 h (λv d=>Lea (K true) (L false v) d) F.qf F.qa F.qz [.pointer (some ⟨br,0,none⟩)] [.pointer (some ⟨bl,0,none⟩)] [.pointer (some ⟨bc true,0,none⟩),.pointer (some ⟨bl,0,none⟩)] w.heap.size (gX gb) u2 (λA u'=>u2.heap.size<=u'.heap.size/\∃X,HubT w x g w.heap.size bl br gb bc h c K L false A u' X):=
   HubT.src (s:=false) hg R hhn (Nat.le_refl _) (Nat.le_refl _) hbc (by have:=Br.lt;omega) (λi hi=>by have:=hgx i hi;omega) hKf (λv=>(hb v).2) (by show HitB (K true);rw [hKt];exact(hb h).1)
  refine rldG (ds:=[.func (.func F.qf) #[] #[.pointer (some ⟨br,0,none⟩)],.func (.func F.qa) #[] #[.pointer (some ⟨bl,0,none⟩)]]) (B:=X8.mv (w:=u2)) rfl rfl (rcall (zC6 hg (.inl rfl) hhn C0 ⟨Nat.le_refl _,X,H0⟩ (by omega)) ?_)
  rintro _ u3 ⟨⟨A,SI,_,X3,H3⟩,f3⟩
  have su3:Stp w u3:=⟨H3.st⟩
  have X83:=(X8.mv (w:=u2)).keptX f3 (M2.ne (by omega) (X8.mv (w:=u2)).h (by decide)) (by decide)
  have X93:=(X9.mv (w:=u2)).keptX f3 (M2.ne (by omega) (X9.mv (w:=u2)).h (by decide)) (by decide)
  have Bz3:=(Bz.mv (w:=u2)).keptX f3 (M2.ne (by omega) (Bz.mv (w:=u2)).h (by decide)) (by decide)
  have own:∀{v v':World} {X:Bool->List SV} {L:Bool->Nat->List HitD},LabM w.heap.size bl g.n gb X L v->FrX (gX gb) w.heap.size hE v v'->Own w.heap.size E.qa v (.slice ah g.n ch) (intsN hs)->Own w.heap.size E.qa v' (.slice ah g.n ch) (intsN hs):=λ{v v' X L} M f O=>by
   refine O.keptX f (λi _ hi=>?_) (by decide)
   obtain⟨g',cur,h4,_,_,h5,_⟩:=O.blk (by intro h0;rw [h0] at hil;simp at hil;omega)
   rw [h4] at hi
   have:=Option.some.inj hi
   simp only at this
   subst this
   exact M.ne (by omega) h5 (by decide)
  have OH3:=own M2 f3 (OH.up (w':=u2))
  have H4:HubT w x g w.heap.size bl br gb bc h c K (curL L false h A) true (λ_=>none) u3 X3:=⟨by rw [zHF];exact H3.M,H3.C,λ_=>H3.o rfl,(λe=>nomatch e),H3.bc,H3.br,H3.st⟩
  have z3:=f3.size
  have C1:SrC g 1 h (λv d=>Lea (curL L false h A true v) (K false) d) F.qg F.qb F.q0 [.pointer (some ⟨br,0,none⟩)] [.pointer (some ⟨bl,0,none⟩)] [.pointer (some ⟨bl,0,none⟩),.pointer (some ⟨bc false,0,none⟩)] w.heap.size (gX gb) u3 (λA' u'=>u3.heap.size<=u'.heap.size/\∃X,HubT w x g w.heap.size bl br gb bc h c K (curL L false h A) true A' u' X):=
   HubT.src (s:=true) hg R hhn (Nat.le_refl _) (Nat.le_refl _) (λs=>⟨(hbc s).1,by have:=(hbc s).2;omega⟩) (by have:=H3.br.lt;omega) (λi hi=>by have:=hgx i hi;omega) hKt (λv=>(hb v).1) (by show HitB (K false);rw [hKf];exact(hb h).2)
  refine rldG (ds:=[.func (.func F.qg) #[] #[.pointer (some ⟨br,0,none⟩)],.func (.func F.qb) #[] #[.pointer (some ⟨bl,0,none⟩)]]) (B:=X93) rfl rfl (rcall (zC6 hg (.inr rfl) hhn C1 ⟨Nat.le_refl _,X3,H4⟩ (by omega)) ?_)
  rintro _ u4 ⟨⟨A2,SO,_,X4,H5⟩,f4⟩
  rw [hKt] at SI
  rw [hKf] at SO
  have I':=I.add hhq hhn SI SO
  rw [<-htk] at I'
  refine rA ⟨rfl,by omega,X4,curL (curL L false h A) true h A2,H5.M,I',X83.keptX f4 (H3.M.ne (by omega) X83.h (by decide)) (by decide),X93.keptX f4 (H3.M.ne (by omega) X93.h (by decide)) (by decide),H5.br,Bz3.keptX f4 (H3.M.ne (by omega) Bz3.h (by decide)) (by decide),own H3.M f4 OH3,⟨H5.st⟩⟩
 ·have hkn:k=hs.length:=by omega
  rw [hkn,List.take_length] at I
  refine rldG (ds:=[.slice (some ⟨gb true,0,none⟩) g.n g.n,.slice (some ⟨gb false,0,none⟩) g.n g.n]) (B:=M.cell) rfl rfl (rsto (B:=Bz) (vs:=[.slice (some ⟨gb true,0,none⟩) g.n g.n,.slice (some ⟨gb false,0,none⟩) g.n g.n]) rfl rfl rfl (two_sl _ _ _ _ _ _) λu2 B2 f2 _=>?_)
  have B2:Bk u2 bz [.slice (some ⟨gb true,0,none⟩) g.n g.n,.slice (some ⟨gb false,0,none⟩) g.n g.n] E.qs:=B2
  have t2:Stp w u2:=⟨Fr.st su.e f2 λi hi=>by omega⟩
  have hzb:bz<w4.heap.size:=Nat.lt_of_lt_of_le Zlt (Le.size (a:=w2))
  have M':LabM w.heap.size bl g.n gb X L u2:=⟨M.lo,M.cell.fr f2 (by omega),λs=>(M.row s).frc f2 Bz (by decide),M.len,M.gne,λs v z h=>(M.own s v z h).frc f2 Bz (by decide),λs v z b h hb=>Nat.lt_of_lt_of_le (M.lt s v z b h hb) f2.size,M.apart⟩
  refine rresG (B:=B2) rfl ?_
  exact⟨⟨gb,bl,X,L,hs,rfl,M',λv hv=>hp.mem_iff.2 (List.mem_range.2 hv),I⟩,t2⟩
end
end Go.W
namespace Go.W
open Go Go.Proofs
variable {B i j k m n n2:Nat} {P:Program} {a a2:Option Addr} {g:GrD} {q:QyD} {w w' w1:World}
theorem rnu{k:Value->World->Prop}{pn:List PanicEntry->World->Prop}{o:Oper}{F:Nat->Value}{s:Sem Unit}(e:execOp (ev F) o=(do s;pure Next.skip))(h:SemU P s k pn w):NextS P (execOp (ev F) o) k pn w:=by
 have e2:(do s;pure Next.skip:Sem Next).run P w=(s.run P w).andThen λ_ w'=>.ok .skip w':=by rw [Sem.run_bind];rfl
 rw [zAR,e,e2]
 rw [zDM] at h
 cases hs:s.run P w with
 |ok v w'=>rw [hs] at h;exact h
 |halt x w'=>rw [hs] at h;cases x <;> exact h
instance elemQ:Elem PP 227 .nilFunc 1 8:=⟨by kernel_rfl⟩
end Go.W
namespace Go.W
open Go Go.Proofs
open Enc (enc)
set_option maxRecDepth 10000
variable {B i j k m n n2:Nat} {P:Program} {a a2:Option Addr} {g:GrD} {q:QyD} {w w' w1:World}
def RgtH (n:Nat) (l:List HitD):Prop:=(∀e∈l,0<=e.v/\e.v<(n:Int)/\0<=e.d/\e.d<=200)/\(l.map (·.v)).Nodup/\l.length<=1000
theorem zDs{c:Nat}{l:List HitD}(S:SlF w (.slice a m c) l)(h:RgtH n l):Sp PP F.cm #[.slice a m c,.int .i64 (n:Int)] w λv w'=>v=.bool true/\Stp w w':=by
 have q_:=S.len
 obtain rfl:=q_
 obtain⟨h1,h2,h3⟩:=h
 refine en TBok rfl ?_
 refine rmkNB (kt:=E.qa) (κ:=Int) rfl λbm w1 n1 M1=>?_
 have hbm:=n1.lo (u:=w)
 refine cnt TBok 12 [4,7] 11 l.length (λk u=>∃ms,MapB PP E.qa u bm ms/\(∀z:Int,getM ms z=if z∈(l.take k).map (·.v) then some (.bool true) else none)/\Stp w u) rfl rfl ⟨[],M1,λz=>by simp [zI2],stp⟩ ?_
 rintro k G u hk ⟨ms,M,hM,su⟩
 refine ite (λhlt=>?_) (λhge=>⟨rfl,su⟩)
 have hk1:k<l.length:=by omega
 have q_:∃x,x=l[k]:=⟨_,rfl⟩
 obtain⟨x,hx⟩:=q_
 have hxm:=h1 x (by rw [hx];exact List.getElem_mem hk1)
 have htk:(l.take (k+1)).map (·.v)=(l.take k).map (·.v)++[x.v]:=by rw [zAa hk1,List.map_append,hx];rfl
 have hnx:x.v∉(l.take k).map (·.v):=by
  have h4:((l.take (k+1)).map (·.v)).Nodup:=h2.sublist ((List.take_sublist ..).map _)
  rw [htk,List.nodup_append] at h4
  exact λh=>h4.2.2 _ h _ (by simp) rfl
 refine rix (S.up (w':=u)) (i:=k) (x:=x) (by rw [hx];simp) λb4 o4 A4=>rloadA A4 rfl (ral λbx w2 n2 X2=>?_)
 have hbx:=n2.lo (u:=u)
 refine rsto (B:=X2) (vs:=enc x) rfl rfl rfl (Enc.one _) λw3 X3 f3 _=>?_
 have X3:Bk w3 bx (enc x) E.qe:=X3
 have t3:Stp u w3:=⟨Fr.st (Le.e (a:=u) (b:=w2)) f3 λi hi=>by omega⟩
 refine rld (B:=X3) rfl (iF (by omega) (rld (B:=X3) rfl (iF (by omega) (rld (B:=X3) rfl (iF (by omega) (rld (B:=X3) rfl (iF (by omega) (rld (B:=X3) rfl (rlookV (M.l.up (w':=w3)) x.v rfl (y:=.bool false) (by rw [hM,if_neg hnx];rfl) (rld (B:=X3) rfl (rupdB (M.up (w':=w3)) x.v rfl λw4 M4 f4 _=>?_)))))))))))
 have t4:Stp w w4:=⟨Fr.st (Le.e (a:=w) (b:=w3)) f4 λi hi=>by omega⟩
 refine rA ⟨rfl,hk1,_,M4,λz=>?_,t4⟩
 rw [zDY,hM,htk]
 by_cases e:z=x.v
 ·rw [if_pos e,if_pos (by rw [e];simp)];rfl
 ·rw [if_neg e]
  have:z∈(l.take k).map (·.v)++[x.v]↔z∈(l.take k).map (·.v):=by rw [List.mem_append,List.mem_singleton];exact⟨λh=>h.elim id λh=>absurd h e,.inl⟩
  simp only [this]
theorem LabI.rgt{hs:List Nat}{Out In:Nat->List HitD}(I:LabI g hs Out In)(hn:g.n<=200)(v:Nat):RgtH g.n (Out v)/\RgtH g.n (In v):=
 ⟨⟨λe he=>by obtain⟨m,d,rfl,_,h2,h3,_⟩:=I.so v e he;dsimp only;omega,I.no v,((I.hb hn v).1).1⟩,⟨λe he=>by obtain⟨m,d,rfl,_,h2,h3,_⟩:=I.si v e he;dsimp only;omega,I.ni v,((I.hb hn v).2).1⟩⟩
section
variable {B bl:Nat} {gb:Bool->Nat} {X:Bool->List SV} {L:Bool->Nat->List HitD} {w w':World} {g:GrD} {hs:List Nat}
structure QyK (x:RQ) (q:QyD):Prop where
 kind:x.kind=q.kind
 frm:x.frm=q.frm
 to:x.to=q.to
theorem zGV{xq:RQ}{n:Int}{w:World}(V:QyK xq q)(Q:QyIs q n)(hk:q.kind=1\/q.kind=2):Sp PP F.zg #[agg xq,.int .i64 n] w λv w'=>v=.int .i64 0/\Stp w w':=by
 obtain⟨k1,k2,k3⟩:=V
 obtain⟨x1,x2,x3,⟨wa,wn,wc⟩,x4,x5⟩:=xq
 simp only at k1 k2 k3
 subst k1 k2 k3
 have q2:=Q.2.1
 have q3:=Q.2.2.1 (by omega)
 refine en TBok rfl ?_
 refine rbx λbq w1 n1 Bq=>rbx λbn w2 n2 Bn=>?_
 have Bq:Bk w1 bq (enc (⟨q.kind,q.frm,q.to,⟨wa,wn,wc⟩,x4,x5⟩:RQ)) E.qt:=Bq
 refine rld (B:=Bq) rfl ?_
 have go:∀u,Stp w2 u->∀v,0<=v/\v<n->Sp PP F.yx #[.int .i64 v,.pointer (some ⟨bn,0,none⟩)] u λr w'=>r=.bool true/\w'=u:=λu e v hv =>
  (zAl (Bn.mv (w:=u))).mono λr w' ⟨h,e⟩=>⟨by rcases h with ⟨h,_⟩|⟨_,h⟩;exact h;exact absurd hv h,e⟩
 rcases hk with hk|hk
 case' inl=>refine iT hk ?_
 case' inr =>
  refine ite (λh=>absurd (hk.symm.trans h) (by decide)) (λ_=>?_)
  refine iT hk ?_
 all_goals
  refine rld (B:=Bq) rfl (rcall (go w2 stp _ q2) ?_)
  rintro _ _ ⟨rfl,rfl⟩
  refine rld (B:=Bq) rfl (rcall (go _ stp _ q3) ?_)
  rintro _ _ ⟨rfl,rfl⟩
  exact⟨rfl,stp⟩
abbrev labV (gb:Bool->Nat) (n:Nat):List Value:=[.slice (some ⟨gb true,0,none⟩) n n,.slice (some ⟨gb false,0,none⟩) n n]
theorem zDr(hg:GrIs g)(M:LabM B bl g.n gb X L w)(I:LabI g hs (L true) (L false)):Sp PP F.cg #[.agg (labV gb g.n).toArray] w λv w'=>v=.bool true/\Stp w w':=by
 have h1:=hg.ok.n1
 have h2:=hg.ok.n2
 refine en TBok rfl ?_
 refine rbx λb w1 n1 B1=>?_
 have B1:Bk w1 b (labV gb g.n) E.qs:=B1
 refine rld (B:=B1) rfl (iF (by omega) (iF (by omega) (rld (B:=B1) rfl (iF (· rfl) (cnt TBok 23 [2,4] 22 g.n (λk u=>Stp w1 u) rfl rfl stp ?_)))))
 rintro k G u hk su
 refine ite (λhlt=>?_) (λhge=>⟨rfl,stp⟩)
 have hk1:k<g.n:=by omega
 have hz:∀s,∃z,(X s)[k]? = some z:=λs=>⟨(X s)[k]'(by rw [M.len];exact hk1),by simp⟩
 have q_:=hz true
 obtain⟨z1,hz1⟩:=q_
 have q_:=hz false
 obtain⟨z0,hz0⟩:=q_
 have R:=I.rgt h2 k
 refine rld (B:=B1) rfl (rix (i:=k) ((M.row true).sl.up (w':=u)) hz1 λb4 o4 A4=>rload1 (A4.cell0 rfl) (rcall (zDs ((M.own true k z1 hz1).sl.up (w':=u)) R.1) ?_))
 rintro _ u2 ⟨rfl,e2⟩
 refine rld (B:=B1) rfl (rix (i:=k) ((M.row false).sl.up (w':=u2)) hz0 λb5 o5 A5=>rload1 (A5.cell0 rfl) (rcall (zDs ((M.own false k z0 hz0).sl.up (w':=u2)) R.2) ?_))
 rintro _ u3 ⟨rfl,e3⟩
 exact rA ⟨rfl,hk1,stp⟩
theorem zHh(hg:GrIs g)(M:LabM B bl g.n gb X L w)(I:LabI g hs (L true) (L false)){f t:Nat}(hf:f<g.n)(ht:t<g.n):
  Sp PP F.ch #[.agg (labV gb g.n).toArray,.int .i64 (f:Int),.int .i64 (t:Int)] w λv w'=>(∃m ok,v=.tuple #[.int .i64 m,.bool ok,.int .i64 0]/\LeaR (L true f) (L false t) m ok)/\Stp w w':=by
 have h2:=hg.ok.n2
 have hz:∀s k,k<g.n->∃z,(X s)[k]? = some z:=λs k hk=>⟨(X s)[k]'(by rw [M.len];exact hk),by simp⟩
 have q_:=hz true f hf
 obtain⟨z1,hz1⟩:=q_
 have q_:=hz false t ht
 obtain⟨z0,hz0⟩:=q_
 refine en TBok rfl ?_
 refine rbx λb w1 n1 B1=>?_
 have B1:Bk w1 b (labV gb g.n) E.qs:=B1
 refine rld (B:=B1) rfl (rldG (ds:=labV gb g.n) (B:=B1) rfl rfl (rcall (zDr hg (M.up (w':=w1)) I) ?_))
 rintro _ w2 ⟨rfl,e2⟩
 refine iF (by omega) (iF (by omega) (iF (by omega) (iF (by omega) (drawR TBok mixed (λ_=>False) (upF 16 0) (by kernel_rfl) λu e _=>tld (B:=B1) rfl nf (tix (i:=f) ((M.row true).sl.up (w':=u)) hz1 λb4 o4 A4 _=>tload1 (A4.cell0 rfl) nf (tld (B:=B1) rfl nf (tix (i:=t) ((M.row false).sl.up (w':=u)) hz0 λb5 o5 A5 _=>tload1 (A5.cell0 rfl) nf (rcall (zBV ((M.own true f z1 hz1).sl.up (w':=u)) ((M.own false t z0 hz0).sl.up (w':=u)) (I.hb h2 f).1 (I.hb h2 t).2) ?_))))))))
 rintro _ u2 ⟨⟨m,ok,rfl,R⟩,e3⟩
 exact⟨e3.e,⟨m,ok,rfl,R⟩,stp⟩
structure HubR (g:GrD) (q:QyD) (y:AnsD):Prop where
 dist:q.kind=1->(∃D:Nat,Dst g q.frm.toNat q.to.toNat D/\y.found=true/\y.num=(D:Int))\/((∀k,¬Wlk g k q.frm.toNat q.to.toNat)/\y.found=false/\y.num=0)
 reach:q.kind=2->((∃D:Nat,Dst g q.frm.toNat q.to.toNat D)/\y.found=true/\y.num=0)\/((∀k,¬Wlk g k q.frm.toNat q.to.toNat)/\y.found=false/\y.num=0)
abbrev quH (xq:RQ) (bh:Nat):List Value:=enc xq++[.func (.func F.yw) #[] #[.pointer (some ⟨bh,0,none⟩)],.nilFunc]
theorem zLx(hg:GrIs g)(M:LabM B bl g.n gb X L w)(I:LabI g hs (L true) (L false))(hp:∀v,v<g.n->v∈hs){xq:RQ}(V:QyK xq q)(Q:QyIs q g.n){bh:Nat}(Bh:Bk w bh (labV gb g.n) E.qs){fn:FuncId}(hk:q.kind=1/\fn=F.qh\/q.kind=2/\fn=F.qc):
  Sp PP fn #[.agg (quH xq bh).toArray] w λv w'=>(∃y,v=.tuple #[agg y,.int .i64 0]/\HubR g q y)/\Stp w w':=by
 obtain⟨i1,i2,i3,i4⟩:=Q
 have i3:=i3 (by omega)
 have q_:∃f:Nat,q.frm=(f:Int):=⟨q.frm.toNat,by omega⟩
 obtain⟨f,hf⟩:=q_
 have q_:∃t:Nat,q.to=(t:Int):=⟨q.to.toNat,by omega⟩
 obtain⟨t,ht⟩:=q_
 have k2':xq.frm=(f:Int):=by rw [V.frm,hf]
 have k3':xq.to=(t:Int):=by rw [V.to,ht]
 have hff:q.frm.toNat=f:=by omega
 have htt:q.to.toNat=t:=by omega
 have hfar:∀u,Stp w u->Sp PP F.yw #[.int .i64 (f:Int),.int .i64 (t:Int),.pointer (some ⟨bh,0,none⟩)] u λv w'=>(∃m ok,v=.tuple #[.int .i64 m,.bool ok,.int .i64 0]/\LeaR (L true f) (L false t) m ok)/\Stp u w':=λu su=>by
  refine en TBok rfl ?_
  refine rldG (ds:=labV gb g.n) (B:=Bh) rfl rfl (rcall (zHh hg (M.up (w':=u)) I (f:=f) (t:=t) (by omega) (by omega)) ?_)
  rintro _ u2 ⟨⟨m,ok,rfl,R⟩,e⟩
  exact⟨⟨m,ok,rfl,R⟩,stp⟩
 rcases hk with ⟨hk,rfl⟩|⟨hk,rfl⟩
 all_goals
  refine en TBok rfl ?_
  refine rbx λbx w1 n1 B1=>?_
  have B1:Bk w1 bx (quH xq bh) E.yj:=B1
  refine ral λbz w2 n2 Z2=>?_
  have hbz:=n2.lo (u:=w)
  refine rld (B:=B1) rfl (rld (B:=B1) (v:=.int .i64 (f:Int)) (by rw [<-k2'];rfl) (rld (B:=B1) (v:=.int .i64 (t:Int)) (by rw [<-k3'];rfl) (rcall (hfar w2 stp) ?_)))
  rintro _ w3 ⟨⟨m,ok,rfl,R⟩,e3⟩
  have D:=zN0 I hp (u:=f) (v:=t) (by omega) R
  rw [<-hff,<-htt] at D
 case' inl =>
  have hH:HubR g q ⟨ok,m,⟨none,0,0⟩⟩:=⟨λ_=>D,λh=>by omega⟩
  refine rbuild (cs:=enc (⟨ok,m,⟨none,0,0⟩⟩:AnsD)) rfl (rsto (B:=Z2.mv (w:=w3)) (vs:=enc (⟨ok,m,⟨none,0,0⟩⟩:AnsD)) rfl rfl rfl (Enc.one _) λw4 B4 f4 _=>?_)
  have B4:Bk w4 bz (enc (⟨ok,m,⟨none,0,0⟩⟩:AnsD)) E.qi:=B4
 case' inr =>
  have hH:HubR g q ⟨ok,0,⟨none,0,0⟩⟩:=⟨λh=>by omega,λ_=>by
   rcases D with ⟨D,h1,h2,_⟩|⟨h1,h2,_⟩
   ·exact .inl ⟨⟨D,h1⟩,h2,rfl⟩
   ·exact .inr ⟨h1,h2,rfl⟩⟩
  refine rbuild (cs:=enc (⟨ok,0,⟨none,0,0⟩⟩:AnsD)) rfl (rsto (B:=Z2.mv (w:=w3)) (vs:=enc (⟨ok,0,⟨none,0,0⟩⟩:AnsD)) rfl rfl rfl (Enc.one _) λw4 B4 f4 _=>?_)
  have B4:Bk w4 bz (enc (⟨ok,0,⟨none,0,0⟩⟩:AnsD)) E.qi:=B4
 all_goals
  have t4:Stp w w4:=⟨Fr.st (Le.e (a:=w) (b:=w3)) f4 λi hi=>by omega⟩
  refine rresG (B:=B4) rfl ?_
  exact⟨⟨_,rfl,hH⟩,t4⟩
theorem zIp(hg:GrIs g)(M:LabM B bl g.n gb X L w)(I:LabI g hs (L true) (L false))(hp:∀v,v<g.n->v∈hs){xq:RQ}(V:QyK xq q)(Q:QyIs q g.n)(hk:q.kind=1\/q.kind=2){bh:Nat}(Bh:Bk w bh (labV gb g.n) E.qs):
  Sp PP F.zo #[.agg (quH xq bh).toArray] w λv w'=>(∃y,v=.tuple #[agg y,.int .i64 0]/\HubR g q y)/\Stp w w':=by
 have k1:=V.kind
 refine en TBok rfl ?_
 refine rbx λbx w1 n1 B1=>?_
 have B1:Bk w1 bx (quH xq bh) E.yj:=B1
 refine ral λbz w2 n2 Z2=>?_
 have hbz:=n2.lo (u:=w)
 refine rmkNB (kt:=E.qa) (κ:=Int) rfl λbm w3 n3 M3=>?_
 have hbm:=n3.lo (u:=w2)
 refine rnu rfl (rupdB M3 (1:Int) rfl λw4 M4 f4 _=>?_)
 refine rnu rfl (rupdB M4 (2:Int) rfl λw5 M5 f5 _=>?_)
 refine rnu rfl (rupdB M5 (3:Int) rfl λw6 M6 f6 _=>?_)
 have t6:Stp w2 w6:=⟨Fr.st (Le.e (a:=w2) (b:=w3)) ((f4.trans f5).trans f6) λi hi=>by omega⟩
 refine rld (B:=B1) (v:=.int .i64 q.kind) (by rw [<-k1];rfl) ?_
 rcases hk with hk|hk
 case' inl =>
  refine rlookV M6.l q.kind rfl (y:=.func (.func F.qh) #[] #[]) (by rw [hk];rfl) ?_
  have hfn:q.kind=1/\F.qh=F.qh\/q.kind=2/\F.qh=F.qc:=.inl ⟨hk,rfl⟩
 case' inr =>
  refine rlookV M6.l q.kind rfl (y:=.func (.func F.qc) #[] #[]) (by rw [hk];rfl) ?_
  have hfn:q.kind=1/\F.qc=F.qh\/q.kind=2/\F.qc=F.qc:=.inr ⟨hk,rfl⟩
 all_goals
  refine rldG (ds:=quH xq bh) (B:=B1.mv (w:=w6)) rfl rfl (rcall (zLx hg (M.up (w':=w6)) I hp V Q (Bh.mv (w:=w6)) hfn) ?_)
  rintro _ w7 ⟨⟨y,rfl,hy⟩,e7⟩
  refine rsto (B:=Z2.mv (w:=w7)) (vs:=enc y) rfl rfl rfl (Enc.one _) λw8 B8 f8 _=>?_
  have B8:Bk w8 bz (enc y) E.qi:=B8
  have t8:Stp w w8:=⟨Fr.st (Le.e (a:=w) (b:=w7)) f8 λi hi=>by omega⟩
  refine rresG (B:=B8) rfl ?_
  exact⟨⟨y,rfl,hy⟩,t8⟩
theorem zIq(hg:GrIs g)(M:LabM B bl g.n gb X L w)(I:LabI g hs (L true) (L false))(hp:∀v,v<g.n->v∈hs){xq:RQ}(V:QyK xq q)(Q:QyIs q g.n)(hk:q.kind=1\/q.kind=2):
  Sp PP F.cv #[agg xq,.agg (labV gb g.n).toArray] w λv w'=>(∃y,v=.tuple #[agg y,.int .i64 0]/\HubR g q y)/\Stp w w':=by
 refine en TBok rfl ?_
 refine rbx λb2 w1 n1 B1=>?_
 have B1:Bk w1 b2 (enc xq) E.qt:=B1
 refine rbx λbh w2 n2 B2=>?_
 have B2:Bk w2 bh (labV gb g.n) E.qs:=B2
 refine ral λbz w3 n3 Z3=>?_
 have hbz:=n3.lo (u:=w)
 refine rldG (ds:=labV gb g.n) (B:=B2) rfl rfl (rcall (zDr hg (M.up (w':=w3)) I) ?_)
 rintro _ w4 ⟨rfl,e4⟩
 refine rldG (ds:=enc xq) (B:=B1) rfl rfl (rld (B:=B2) rfl (rcall (zGV V Q hk) ?_))
 rintro _ w5 ⟨rfl,e5⟩
 refine iF (· rfl) (rldG (ds:=enc xq) (B:=B1) rfl rfl (rbuild (cs:=quH xq bh) rfl (rcall (zIp hg (M.up (w':=w5)) I hp V Q hk (B2.mv (w:=w5))) ?_)))
 rintro _ w6 ⟨⟨y,rfl,hy⟩,e6⟩
 refine rsto (B:=Z3.mv (w:=w6)) (vs:=enc y) rfl rfl rfl (Enc.one _) λw8 B8 f8 _=>?_
 have B8:Bk w8 bz (enc y) E.qi:=B8
 have t8:Stp w w8:=⟨Fr.st (Le.e (a:=w) (b:=w6)) f8 λi hi=>by omega⟩
 refine rresG (B:=B8) rfl ?_
 exact⟨⟨y,rfl,hy⟩,t8⟩
end
theorem zDH{x:RCfg}{im:List UInt8}(him:im.length<=4611686018427387904){c:Nat}{l:List REv}(h:SlF w (.slice a n c) l)(hm:EvsM w l):
  Sp PP F.zy #[agg x,txt im,.slice a n c] w λv w'=>v=.bool true/\Stp w w':=by
 have q_:=h.len
 obtain rfl:=q_
 refine en TBok rfl ?_
 refine rbx λb w1 n1 B1=>?_
 have B1:Bk w1 b (enc x) E.qy:=B1
 refine rldG (B:=B1) rfl rfl ?_
 by_cases hq:cfgOk x/\∃g,imgOf im=some g
 case neg =>
  refine rcall (zMz him hq) ?_
  rintro _ w2 ⟨⟨e,rfl,he⟩,e2⟩
  refine rldG (B:=B1) rfl rfl ?_
  refine rcall (zBR h.up) ?_
  rintro _ w4 ⟨rfl|⟨rfl,hs,hi⟩,e4⟩
  ·refine rcall zAs ?_
   rintro _ w5 ⟨rfl,e5⟩
   exact⟨rfl,stp⟩
  ·refine rpnil ?_
   refine rcall zAs ?_
   rintro _ w5 ⟨rfl,e5⟩
   exact⟨rfl,stp⟩
 obtain⟨hc,g,hi⟩:=hq
 refine rcall (zIH him hc hi) ?_
 rintro _ w2 ⟨⟨bs,rfl,S0⟩,e2⟩
 have z2:=e2.e.size
 refine rldG (B:=B1) rfl rfl ?_
 refine rcall (zBR h.up) ?_
 rintro _ w4 ⟨rfl|⟨rfl,hs,hi4⟩,e4⟩
 ·refine rcall zAs ?_
  rintro _ w5 ⟨rfl,e5⟩
  exact⟨rfl,stp⟩
 refine rpnil ?_
 refine iF (· rfl) ?_
 have z4:=e4.e.size
 have hgi:=zI9 hi
 have hn2:=hgi.ok.n2
 refine rcall (zDq him) ?_
 rintro _ w5 ⟨hp,e5⟩
 rcases hp with ⟨g',xg,vs,hi',rfl,V⟩|⟨hn,rfl⟩
 case' inr=>rw [hi] at hn;cases hn
 have hgg:g'=g:=Option.some.inj (hi'.symm.trans hi)
 rw [hgg] at V
 have z5:=e5.e.size
 refine ral λbg w6 n6 X6=>?_
 have hbg:=n6.lo (u:=w5)
 refine rsto (B:=X6) (vs:=enc xg) rfl rfl rfl (Enc.one _) λw7 X7 f7 _=>?_
 have X7:Bk w7 bg (enc xg) E.qf:=X7
 have t7:Stp w5 w7:=⟨Fr.st (Le.e (a:=w5) (b:=w6)) f7 λi hi=>by omega⟩
 have hxn:=V.n
 refine rld (B:=X7) (v:=.int .i64 (g.n:Int)) (by rw [<-hxn];rfl) ?_
 refine ite (λ_=>?_) (λh25=>?_)
 ·refine rcall zAs ?_
  rintro _ w5' ⟨rfl,e5'⟩
  exact⟨rfl,stp⟩
 refine rldG (ds:=enc xg) (B:=X7) rfl rfl ?_
 refine rcall (zE8 (V.up (w':=w7)) hgi) ?_
 rintro _ w8 ⟨⟨xr,r,rfl,RO⟩,e8⟩
 have z8:=e8.e.size
 have z7:=t7.e.size
 refine ral λbr w9 n9 X9=>?_
 have hbr:=n9.lo (u:=w8)
 refine rsto (B:=X9) (vs:=enc xr) rfl rfl rfl (Enc.one _) λw10 X10 f10 _=>?_
 have X10:Bk w10 br (enc xr) E.qq:=X10
 have t10:Stp w8 w10:=⟨Fr.st (Le.e (a:=w8) (b:=w9)) f10 λi hi=>by omega⟩
 have z10:=t10.e.size
 refine rldG (ds:=enc xr) (B:=X10) rfl rfl ?_
 refine rcall (zHg hgi (RO.f.up (w':=w10))) ?_
 rintro _ w11 ⟨⟨gb,bl,X,L,hs',rfl,M,hp,I⟩,e11⟩
 have z11:=e11.e.size
 refine ral λbv w12 n12 X12=>?_
 have hbv:=n12.lo (u:=w11)
 refine rsto (B:=X12) (vs:=labV gb g.n) rfl rfl rfl (two_sl _ _ _ _ _ _) λw13 X13 f13 _=>?_
 have X13:Bk w13 bv (labV gb g.n) E.qs:=X13
 have t13:Stp w11 w13:=⟨Fr.st (Le.e (a:=w11) (b:=w12)) f13 λi hi=>by omega⟩
 have z13:=t13.e.size
 have M13:=M.up (w':=w13)
 have S13:=((S0.up (w':=w10)).up (w':=w11)).up (w':=w13)
 have q_:∃R:Nat->Prop,R=(λi=>w1.heap.size<=i/\i<w2.heap.size):=⟨_,rfl⟩
 obtain⟨R,hRd⟩:=q_
 rw [<-hRd] at S13
 have hRlt:∀i,R i->i<w2.heap.size:=λi h=>by rw [hRd] at h;exact h.2
 refine rcall (zDI (l:=l) S13 (by omega) rfl (λu fu=>by
  have t:Stw w1 w13 u:=S13.stw fu (Nat.le_refl _)
  exact SlF.up (w:=w) h) (λy hy=>by
  have q_:=hm y hy
  obtain⟨ps,hps⟩:=q_
  exact⟨ps,λu fu=>by
   have t:Stw w1 w13 u:=S13.stw fu (Nat.le_refl _)
   exact SlF.up (w:=w) hps⟩) hs hi4) ?_
 rintro _ w14 ⟨vo,R',s,took,out,ys,xs,vt,rfl,P⟩
 have hn1:=hgi.ok.n1
 have M14:LabM w10.heap.size bl g.n gb X L w14:=by
  have hD:∀i,w10.heap.size<=i->¬R i:=λi h1 h2=>by have:=hRlt i h2;omega
  refine⟨M13.lo,M13.cell.fr P.fr (hD _ M13.lo),λs=>(M13.row s).fr P.fr λi h1 _=>hD i h1,M13.len,M13.gne,λs v z h=>(M13.own s v z h).fr P.fr λi h1 _=>hD i h1,λs v z b h hb=>Nat.lt_of_lt_of_le (M13.lt s v z b h hb) P.fr.size,M13.apart⟩
 have X14:=X13.fr P.fr (λh2=>by have:=hRlt bv h2;omega)
 have t14:Stw w1 w13 w14:=S13.stw P.fr (Nat.le_refl _)
 have tw13:Stp w w13:=stp
 have hww1:=Le.size (a:=w) (b:=w1)
 have tw14:Stp w w14:=⟨Fr.st tw13.e t14.e λi hi=>Nat.le_trans hww1 hi⟩
 refine iF (· rfl) ?_
 refine iF (· rfl) ?_
 refine iF (· rfl) ?_
 obtain⟨_,J,_,O,_,_,_,_⟩:=P
 have hxl:=O.len
 have q_:∃n,n=xs.length:=⟨_,rfl⟩
 obtain⟨nx,hnx⟩:=q_
 have q_:=O.own.shape
 obtain⟨ao,co,hvo⟩:=q_
 rw [<-hnx] at hvo
 subst hvo
 clear M13 M X12 X13 V X7 X9 X10 S0 h hm RO S13
 refine cnt TBok 18 [6] 17 nx (λk u=>Stp w14 u) rfl rfl stp ?_
 rintro k G u hk su
 refine ite (λhlt=>?_) (λhge=>?_)
 ·have hk1:k<xs.length:=by omega
  have hxk:xs[k]? = some xs[k]:=by simp
  have hdk:out[k]? = some (out[k]'(by omega)):=by simp
  have q_:∃z,z=xs[k]:=⟨_,rfl⟩
  obtain⟨z,hz⟩:=q_
  have q_:∃d,d=out[k]'(by omega):=⟨_,rfl⟩
  obtain⟨d,hd⟩:=q_
  have hdm:d∈out:=by rw [hd];exact List.getElem_mem _
  rw [<-hz] at hxk
  rw [<-hd] at hdk
  have q_:=O.all k z d hxk hdk
  obtain⟨⟨k1,k2,k3,k4,k5,k6⟩,HO⟩:=q_
  have q_:=J.out d hdm
  obtain⟨hrq,hal⟩:=q_
  have W:=al_wlk hgi.ok hrq hal
  have HL:z.y.a.s.n=d.2.hits.length:=HO.1
  have OX:=O.own.sl.up (w':=u)
  refine rix (i:=k) OX hxk λb1 o1 A1=>?_
  refine rload1 (A1.cell 0 rfl) ?_
  refine ite (λh3=>?_) (λh3=>?_)
  ·exact rA ⟨rfl,by omega,stp⟩
  ·have hkk:d.1.q.kind=1\/d.1.q.kind=2:=by
    have q_:=hrq.q.1
    rcases q_ with h|h|h
    ·exact .inl h
    ·exact .inr h
    ·exact absurd (k1.trans h) h3
   refine drawRT TBok mixed (λi=>u.heap.size<=i) (.one 0 (.one 1 (.one 2 (.one 3 (.one 4 (.one 5 (.two 6 (.one 7 (.one 8 (.one 9 (.one 10 (.one 11 (.one 12 .nil)))))) 10 (.one 6 (.one 7 (.one 8 (.one 9 (.one 11 (.one 12 .nil))))))))))))) (by kernel_rfl) λu1 e1 _=>?_
   refine tix (i:=k) (OX.up (w':=u1)) hxk λb2 o2 A2 h2=>tloadA (A2.sub 0 6) rfl (by
    intro h4
    obtain⟨b',h5,h6⟩:=OX.lt (by intro h0;rw [h0] at hk1;cases hk1)
    rw [h2] at h5
    have:=Option.some.inj h5
    omega) ?_
   refine tldG (ds:=labV gb g.n) (B:=X14) rfl rfl (by intro h4;have:=X14.lt;have:=su.e.size;omega) ?_
   have D:=λ(v:World) (e:Stp u v)=>zIq hgi (M14.up (w':=v)) I hp (xq:=z.q) (q:=d.1.q) ⟨k1,k2,k3⟩ hrq.q hkk
   have fin:∀(ya:AnsD),HubR g d.1.q ya->ya.found=z.y.a.found/\ya.num=z.y.a.num/\d.2.hits=[]:=λya H=>by
    rcases hkk with hk|hk
    ·have q_:=W.dist hk
     rcases q_ with ⟨D1,h1,h2⟩|⟨h1,h2⟩
     ·have q_:=H.dist hk
      rcases q_ with ⟨D2,h3,h4,h5⟩|⟨h3,_⟩
      ·rw [k5,k6,h2,h4,h5,Dst.uniq h1 h3];exact⟨rfl,rfl,rfl⟩
      ·exact absurd h1.1 (h3 D1)
     ·have q_:=H.dist hk
      rcases q_ with ⟨D2,h3,_⟩|⟨_,h4,h5⟩
      ·exact absurd h3.1 (h1 D2)
      ·rw [k5,k6,h2,h4,h5];exact⟨rfl,rfl,rfl⟩
    ·have q_:=W.reach hk
     rcases q_ with ⟨⟨D1,h1⟩,h2⟩|⟨h1,h2⟩
     ·have q_:=H.reach hk
      rcases q_ with ⟨_,h4,h5⟩|⟨h3,_⟩
      ·rw [k5,k6,h2,h4,h5];exact⟨rfl,rfl,rfl⟩
      ·exact absurd h1.1 (h3 D1)
     ·have q_:=H.reach hk
      rcases q_ with ⟨⟨D2,h3⟩,_⟩|⟨_,h4,h5⟩
      ·exact absurd h3.1 (h1 D2)
      ·rw [k5,k6,h2,h4,h5];exact⟨rfl,rfl,rfl⟩
   refine⟨?ca,?cb⟩
   case' ca =>
    refine rcall (D u1 stp) ?_
    rintro _ u2 ⟨⟨ya,rfl,H⟩,e2⟩
    refine⟨Fr.fr e2.e,?_⟩
    refine ral λba u3 n3 Y3=>⟨Fr.fr n3.e,?_⟩
   case' cb =>
    refine ral λba u2 n3 Y3=>⟨Fr.fr n3.e,?_⟩
    refine rcall (D u2 stp) ?_
    rintro _ u3 ⟨⟨ya,rfl,H⟩,e2⟩
    refine⟨Fr.fr e2.e,?_⟩
   all_goals
    have hba:=n3.lo (u:=u)
    refine rsto (B:=Y3.mv (w:=u3)) (vs:=enc ya) rfl rfl rfl (Enc.one _) λu4 Y4 f4 _=>⟨f4.mono λi _ hi=>by omega,?_⟩
    have Y4:Bk u4 ba (enc ya) E.qi:=Y4
    have t4:Stp u u4:=⟨Fr.st (Le.e (a:=u) (b:=u3)) f4 λi hi=>by omega⟩
    have hfin:=fin ya H
    obtain⟨hf1,hf2,hf3⟩:=hfin
    refine rix (i:=k) (OX.up (w':=u4)) hxk λb5 o5 A5=>?_
    refine rloadA (A5.sub 8 3) rfl ?_
    refine ral λbx u6 n6' Y6=>?_
    have hbx:=n6'.lo (u:=u4)
    refine rsto (B:=Y6) (vs:=enc z.y.a) rfl rfl rfl (Enc.one _) λu7 Y7 f7 _=>?_
    have Y7:Bk u7 bx (enc z.y.a) E.qi:=Y7
    have t7':Stp u4 u7:=⟨Fr.st (Le.e (a:=u4) (b:=u6)) f7 λi hi=>by omega⟩
    refine iF (· rfl) ?_
    refine rld (B:=Y4.mv (w:=u7)) rfl ?_
    refine rld (B:=Y7) rfl ?_
    refine rbne (λh=>absurd hf1 h) (λ_=>?_)
    refine rld (B:=Y4.mv (w:=u7)) rfl ?_
    refine rld (B:=Y7) rfl ?_
    refine iF (· hf2) ?_
    refine rld (B:=Y7) rfl ?_
    have hn0:z.y.a.s.n=0:=by rw [HL,hf3];rfl
    refine iF (by rw [hn0];decide) ?_
    exact rA ⟨rfl,by omega,stp⟩
 ·refine rcall zAs ?_
  rintro _ w5' ⟨rfl,e5'⟩
  exact⟨rfl,⟨(Fr.trans (Fr.trans tw14.e su.e) e5'.e)⟩⟩
end Go.W
