/-
  Proved here: a part of the walks and plain laws of this claim (merged by a program of mine).
  Conditions: those that each fact names.
-/
import Derived.Test.YtaleiifbaefffaaGreatV5
set_option linter.unusedVariables false
set_option linter.unusedSimpArgs false
namespace Go.W
open Go Go.Proofs
open Enc (enc)
set_option maxRecDepth 10000
variable {a:Option Addr} {g:GrD} {n:Nat} {w:World}
set_option maxHeartbeats 2000000 in
theorem zI7{x:RCfg}{im f:List UInt8}{q:RqD}{an:AnP}(him:im.length≤4611686018427387904)(hf:f.length≤4611686018427387904)(hc:cfgOk x)(hi:imgOf im=some g)
  (hn:comeS g (cfOf x) (newS (cfOf x)) f=(⟨[q],(newS (cfOf x)).held⟩,none))(ha:AlRep g (cfOf x) q an):
  Sp PP F.zr #[agg x,txt im,txt f] w fun v w'=>Own w.heap.size E.qf w' v [bsOf (bytR (q.id,0,an))]∧Stp w w':=by
 obtain⟨N,hNb,hal,hfit,hdone,hans⟩:=ha
 refine en TBok rfl ?_
 refine rbx fun b w1 n1 B1=>?_
 have B1:Bk w1 b (enc x) E.qn:=B1
 refine rldG (B:=B1) rfl rfl ?_
 refine rcall (zCE him hc hi) ?_
 rintro _ w2 ⟨⟨bs,rfl,S0⟩,e2⟩
 have z2:=e2.e.size
 refine rpnil ?_
 refine ite (fun h=>absurd rfl h) (fun _=>?_)
 have D3:=zAA (f:=f) S0 z2 hf
 rw [hn] at D3
 refine rcall D3 ?_
 rintro _ w3 ⟨rfl,S3,f3⟩
 have t3:Stw w1 w2 w3:=S0.stw f3 (Nat.le_refl _)
 have z3:=f3.size
 have q_:=S3.ok
 obtain⟨_,hcf,_⟩:=q_
 have hbu:=hcf.budget
 have hBu:((cfOf x).budget:Int)=x.budget:=Int.toNat_of_nonneg (by have:=hc.2.2.2.2.1;omega)
 refine cnt TBok 12 [6] 11 N (fun k u=>∃R,SrvP R w1.heap.size u bs g (cfOf x) (stA (cfOf x) q k)∧Fr (fun i=>w1.heap.size≤i) w3 u) rfl rfl ⟨_,S3,Fr.refl _ _⟩ ?_
 rintro k G u hk ⟨R,S,fu⟩
 have su:Stw w1 w3 u:=⟨fu⟩
 have zu:=fu.size
 refine ite (fun _=>?_) (fun h=>absurd (by omega) h)
 refine rld (B:=B1) rfl ?_
 refine ite (fun _=>?_) (fun h=>absurd (by omega) h)
 have q_:=Nat.lt_or_ge k N
 rcases q_ with hkN|hkN
 ·have D4:=zAm (ps:=[]) S (by omega) fun u _=>SlF.nil u
  have h4:=stA_on hcf.slots.1 hNb hal hkN
  rw [h4.1,h4.2] at D4
  refine rcall D4 ?_
  rintro v4 w4 ⟨R4,O4,_,S4,_,f4⟩
  have q_:=O4.shape
  obtain⟨a4,c4,rfl⟩:=q_
  refine ite (fun h=>absurd h (by simp)) (fun _=>?_)
  exact rar (by omega) ⟨rfl,hkN,R4,S4,fu.trans (S.frB f4)⟩
 ·have q_:k=N:=by omega
  obtain rfl:=q_
  have D4:=zAm (ps:=[]) S (by omega) fun u _=>SlF.nil u
  rw [zNn hcf.slots.1 hfit hdone hans] at D4
  refine rcall D4 ?_
  rintro v4 w4 ⟨R4,O4,_,S4,_,f4⟩
  have t4:Stw w1 u w4:=S.stw f4 (Nat.le_refl _)
  have q_:=O4.shape
  obtain⟨a4,c4,rfl⟩:=q_
  refine ite (fun _=>?_) (fun h=>absurd (by simp) h)
  exact⟨O4.mono (by have:=Le.size (a:=w) (b:=u);omega),stp⟩
def AlP (g:GrD) (c:CfD) (f0:List UInt8) (n0:Int) (at' k:Int) (s:SvD):Prop:=
 AlI g c s.held∧(at'<k→∃q,q.id=n0∧q∈rqs s∧comeS g c (newS c) f0=(⟨[q],(newS c).held⟩,none))
set_option maxHeartbeats 8000000 in
theorem zEV{x:RCfg}{im:List UInt8}(him:im.length≤4611686018427387904){c:Nat}{l:List REv}{at':Int}(hat:-9223372036854775808≤at'∧at'≤9223372036854775807)(h:SlF w (.slice a n c) l)(hm:EvsM w l):
  Sp PP F.pv #[agg x,txt im,.slice a n c,.int .i64 at'] w fun v w'=>v=.bool true∧Stp w w':=by
 have q_:=h.len
 obtain rfl:=q_
 refine en TBok rfl ?_
 refine rbx fun b w1 n1 B1=>?_
 have B1:Bk w1 b (enc x) E.qn:=B1
 refine rldG (B:=B1) rfl rfl ?_
 by_cases hq:cfgOk x∧∃g,imgOf im=some g
 case neg =>
  refine rcall (zDI him hq) ?_
  rintro _ w2 ⟨⟨e,rfl,he⟩,e2⟩
  refine rldG (B:=B1) rfl rfl ?_
  refine rcall (zAQ h.up) ?_
  rintro _ w4 ⟨rfl|⟨rfl,hs,hi⟩,e4⟩
  ·refine rcall zAa ?_
   rintro _ w5 ⟨rfl,e5⟩
   exact⟨rfl,stp⟩
  ·refine rpnil ?_
   refine rcall zAa ?_
   rintro _ w5 ⟨rfl,e5⟩
   exact⟨rfl,stp⟩
 obtain⟨hc,g,hi⟩:=hq
 refine rcall (zCE him hc hi) ?_
 rintro _ w2 ⟨⟨bs,rfl,S0⟩,e2⟩
 have z2:=e2.e.size
 refine rldG (B:=B1) rfl rfl ?_
 refine rcall (zAQ h.up) ?_
 rintro _ w4 ⟨rfl|⟨rfl,hs,hi4⟩,e4⟩
 ·refine rcall zAa ?_
  rintro _ w5 ⟨rfl,e5⟩
  exact⟨rfl,stp⟩
 refine rpnil ?_
 refine ite (fun h=>absurd rfl h) (fun _=>?_)
 refine ite (fun ha0=>?_) (fun ha0=>?_)
 ·refine rcall zAa ?_
  rintro _ w5 ⟨rfl,e5⟩
  exact⟨rfl,stp⟩
 refine ite (fun ha1=>?_) (fun ha1=>?_)
 ·refine rcall zAa ?_
  rintro _ w5 ⟨rfl,e5⟩
  exact⟨rfl,stp⟩
 have q_:∃p:Nat,at'=(p:Int):=⟨at'.toNat,by omega⟩
 obtain⟨p,hp⟩:=q_
 subst hp
 have hpl:p<l.length:=by omega
 have hip:l[p]? = some l[p]:=by simp
 have q_:∃y,y=l[p]:=⟨_,rfl⟩
 obtain⟨y0,hy0⟩:=q_
 rw [←hy0] at hip
 have hym0:y0∈l:=by rw [hy0];exact List.getElem_mem hpl
 have hyf0:=(hs.2 y0 hym0).1
 have hl80:=hs.1
 have z4:=e4.e.size
 refine rix (i:=p) (h.up (w':=w4)) hip fun b1 o1 A1=>?_
 refine rload1 (A1.cell 0 rfl) ?_
 obtain⟨yt0,f0,pa0,pn0,pc0⟩:=y0
 have hyf0:f0.length≤300:=hyf0
 cases yt0
 case true =>
  refine rcall zAa ?_
  rintro _ w5 ⟨rfl,e5⟩
  exact⟨rfl,stp⟩
 have hip:l[p]? = some ⟨false,f0,pa0,pn0,pc0⟩:=hip
 refine rix (i:=p) (h.up (w':=w4)) hip fun b3 o3 A3=>?_
 refine rload1 (A3.cell 1 rfl) ?_
 have D0:Sp PP F.q3 #[txt f0] w4 fun v w'=>∃(n0:Int) (ok:Bool),v=.tuple #[.int .i64 n0,.bool ok]∧0≤n0∧(ok=true→idOf f0=some n0.toNat)∧Stp w4 w':=(zBs (by omega)).mono fun v w' ⟨q,e⟩=>by
  rcases q with ⟨n,h1,h2⟩|⟨h1,h2⟩
  ·exact⟨n,true,h2,by omega,fun _=>by rw [h1];rfl,e⟩
  ·exact⟨0,false,h2,by omega,(fun h3=>nomatch h3),e⟩
 refine rcall D0 ?_
 rintro _ w5 ⟨n0,ok,rfl,hn0,hok,e5⟩
 have z5:=e5.e.size
 refine cnt TBok 14 [8] 13 l.length (fun k u=>Sv1 w1.heap.size w5 u bs g (cfOf x) (AlP g (cfOf x) f0 n0 p k)) rfl rfl ⟨_,_,S0.up (w':=w5),⟨AlI.new,fun h=>absurd h (by omega)⟩,Fr.refl _ _⟩ ?_
 rintro k G u hk ⟨R,s,S,⟨hal,hrq⟩,fu⟩
 have su:Stw w1 w5 u:=⟨fu⟩
 have zu:=fu.size
 have q_:=S.ok
 obtain⟨_,hcf,hso⟩:=q_
 refine ite (fun hlt=>?_) (fun hge=>?_)
 case refine_2 =>
  refine rcall zAa ?_
  rintro _ v1 ⟨rfl,g1⟩
  exact⟨rfl,stp⟩
 have hk1:k<l.length:=by omega
 have hiy:l[k]? = some l[k]:=by simp
 have q_:∃y,y=l[k]:=⟨_,rfl⟩
 obtain⟨y,hy⟩:=q_
 rw [←hy] at hiy
 have hym:y∈l:=by rw [hy];exact List.getElem_mem hk1
 have q_:=hm y hym
 obtain⟨ps,hps⟩:=q_
 have hyf:=(hs.2 y hym).1
 obtain⟨yt,yf,pa,pn,pc⟩:=y
 have hps:SlF w (.slice pa pn pc) ps:=hps
 have hyf:yf.length≤300:=hyf
 have hp1:∀v,Fr R u v→SlF v (.slice pa pn pc) ps:=fun v fv=>by
  have t:Stw w1 u v:=S.stw fv (Nat.le_refl _)
  exact SlF.up (w:=w) hps
 refine rix (i:=k) (h.up (w':=u)) hiy fun b6 o6 A6=>?_
 refine rload1 (A6.cell 0 rfl) ?_
 cases yt with
 |false =>
  refine rix (i:=k) (h.up (w':=u)) hiy fun b7 o7 A7=>?_
  refine rload1 (A7.cell 1 rfl) ?_
  have D7:=zAA (f:=yf) S (by omega) (by omega)
  have hkept:=fun q hq=>zLL (f:=yf) hso (x:=q) hq
  have hnew:=zMC (f:=yf) hcf hso
  have hal7:=hal.come yf
  have q_:∃o,(comeS g (cfOf x) s yf).2=o:=⟨_,rfl⟩
  obtain⟨o,ho⟩:=q_
  rw [ho] at D7
  cases o with
  |none =>
   refine rcall D7 ?_
   rintro _ w7 ⟨rfl,S7,f7⟩
   have t7:Stw w1 u w7:=S.stw f7 (Nat.le_refl _)
   have fr7:=fu.trans (S.frB f7)
   refine rcall (zBs (by decide)) ?_
   rintro _ w8 ⟨⟨n8,_,rfl⟩|⟨_,rfl⟩,e8⟩
   all_goals
    have fr8:=fr7.trans (Fr.fr e8.e)
    refine ite (fun hka=>?_) (fun hka=>?_)
    ·have hkp:k=p:=by omega
     subst hkp
     have hyy:yf=f0:=by
      rw [hip] at hiy
      cases hiy;rfl
     subst hyy
     cases ok
     ·refine rcall zAa ?_
      rintro _ v1 ⟨rfl,g1⟩
      exact⟨rfl,stp⟩
     ·have hid:=hok rfl
      have q_:=hnew ho (by rw [hid];simp)
      obtain⟨q,hq1,hq2,hq3⟩:=q_
      have q_:=id_req hq1
      obtain⟨hq4,hq5⟩:=q_
      rw [hid] at hq4
      have hq6:n0.toNat=q.id.toNat:=Option.some.inj hq4
      refine ite (fun h9=>absurd h9 (by omega)) (fun _=>?_)
      exact rar (by omega) ⟨rfl,hk1,_,_,S7.up (w':=w8),⟨hal7,fun _=>⟨q,by omega,hq2,hq3⟩⟩,fr8⟩
    ·have hnx:AlP g (cfOf x) f0 n0 (p:Int) ((k+1:Nat):Int) (comeS g (cfOf x) s yf).1:=⟨hal7,fun h9=>by
      have q_:=hrq (by omega)
      obtain⟨q,h10,h11,h12⟩:=q_
      refine⟨q,h10,?_,h12⟩
      have q_:=hkept q h11
      rcases q_ with ⟨t,h13,_⟩|h13
      ·rw [ho] at h13;cases h13
      ·exact h13⟩
     refine ite (fun h9=>?_) (fun h9=>?_)
     all_goals exact rar (by omega) ⟨rfl,hk1,_,_,S7.up (w':=w8),hnx,fr8⟩
  |some t =>
   have htl:t.length≤4611686018427387904:=by
    have q_:=zLM hso ho
    obtain⟨z,h1,rfl⟩:=q_
    have:=zF5 h1;omega
   refine rcall D7 ?_
   rintro _ w7 ⟨rfl,S7,f7⟩
   have t7:Stw w1 u w7:=S.stw f7 (Nat.le_refl _)
   have fr7:=fu.trans (S.frB f7)
   have D8:Sp PP F.q3 #[txt t] w7 fun v w'=>∃(n8:Int) (is:Bool),v=.tuple #[.int .i64 n8,.bool is]∧(∀m,idOf t=some m→is=true∧n8=(m:Int))∧Stp w7 w':=(zBs htl).mono fun v w' ⟨q,e⟩=>by
    rcases q with ⟨n,h1,h2⟩|⟨h1,h2⟩
    ·exact⟨n,true,h2,(fun m hm=>by rw [h1] at hm;exact⟨rfl,by rw [Option.some.inj hm]⟩),e⟩
    ·exact⟨0,false,h2,(fun m hm=>by rw [h1] at hm;cases hm),e⟩
   refine rcall D8 ?_
   rintro _ w8 ⟨n8,is,rfl,h8,e8⟩
   have fr8:=fr7.trans (Fr.fr e8.e)
   refine ite (fun hka=>?_) (fun hka=>?_)
   ·refine rcall zAa ?_
    rintro _ v1 ⟨rfl,g1⟩
    exact⟨rfl,stp⟩
   ·have hnx:((p:Int)<k→¬(is=true∧n8=n0))→AlP g (cfOf x) f0 n0 (p:Int) ((k+1:Nat):Int) (comeS g (cfOf x) s yf).1:=fun hno=>⟨hal7,fun h9=>by
      have q_:=hrq (by omega)
      obtain⟨q,h10,h11,h12⟩:=q_
      refine⟨q,h10,?_,h12⟩
      have q_:=hkept q h11
      rcases q_ with ⟨t',h13,h14⟩|h13
      ·rw [ho] at h13;cases h13
       have h15:=h8 _ h14
       exact absurd ⟨h15.1,by omega⟩ (hno (by omega))
      ·exact h13⟩
    refine ite (fun h9=>?_) (fun h9=>?_)
    ·cases is
     ·exact rar (by omega) ⟨rfl,hk1,_,_,S7.up (w':=w8),hnx (fun _ h10=>nomatch h10.1),fr8⟩
     ·refine ite (fun h10=>?_) (fun h10=>?_)
      ·refine rcall zAa ?_
       rintro _ v1 ⟨rfl,g1⟩
       exact⟨rfl,stp⟩
      ·exact rar (by omega) ⟨rfl,hk1,_,_,S7.up (w':=w8),hnx fun _ h11=>h10 h11.2,fr8⟩
    ·exact rar (by omega) ⟨rfl,hk1,_,_,S7.up (w':=w8),hnx fun h11=>absurd h11 (by omega),fr8⟩
 |true =>
  refine rix (i:=k) (h.up (w':=u)) hiy fun b7 o7 A7=>?_
  refine rload1 (A7.cell 2 rfl) ?_
  refine rcall (zAm S (by omega) hp1) ?_
  rintro v7 w7 ⟨R7,O7,_,S7,_,f7⟩
  have t7:Stw w1 u w7:=S.stw f7 (Nat.le_refl _)
  have fr7:=fu.trans (S.frB f7)
  have hlt7:=zGy S
  have hal7:=hal.tick
  have hstay:=fun q hq=>zLD hcf hso (x:=q) hq
  have q_:∃L,L=tickR g (cfOf x) s:=⟨_,rfl⟩
  obtain⟨L,hL⟩:=q_
  rw [zB6,←hL] at O7 hlt7
  rw [←hL] at hstay
  have q_:=O7.shape
  obtain⟨a7,c7,rfl⟩:=q_
  have hLl:((L.map bytR).map bsOf).length=L.length:=by simp
  have hLl2:(L.map bytR).length=L.length:=by simp
  have hnx:∀m:Nat,(∀j (hj:j<L.length),j<m→(p:Int)<k→L[j].1≠n0)→(L.length≤m∨¬(p:Int)<k)→AlP g (cfOf x) f0 n0 (p:Int) ((k+1:Nat):Int) (tickS g (cfOf x) s).1:=fun m hmm hor=>⟨hal7,fun h9=>by
   have hkp:(p:Int)≠k:=fun h0=>by
    have hkp:k=p:=by omega
    subst hkp
    rw [hip] at hiy;cases hiy
   have h10:(p:Int)<k:=by omega
   have q_:=hrq h10
   obtain⟨q,h11,h12,h13⟩:=q_
   refine⟨q,h11,?_,h13⟩
   have q_:=hstay q h12
   rcases q_ with h14|⟨z,h14,h15⟩
   ·exact h14
   ·have q_:=List.mem_iff_getElem.1 h14
    obtain⟨j,hj,rfl⟩:=q_
    exact absurd (by omega) (hmm j hj (by omega) h10)⟩
  refine cnt TBok 20 [8] 19 L.length (fun m u'=>(∀j (hj:j<L.length),j<m→(p:Int)<k→L[j].1≠n0)∧Stp w7 u') rfl rfl ⟨fun j hj h0=>absurd h0 (by omega),stp⟩ ?_
  rintro m G8 w8 hm8 ⟨hmm,su8⟩
  have t78:Stw w1 w7 w8:=⟨Fr.fr su8.e⟩
  have fr8:=fr7.trans (Fr.fr su8.e)
  refine ite (fun hlt3=>?_) (fun hge3=>?_)
  case refine_2=>exact rar (by omega) ⟨rfl,hk1,R7,_,S7.up (w':=w8),hnx m hmm (.inl (by omega)),fr8⟩
  refine ite (fun hpk=>?_) (fun hpk=>?_)
  case refine_2=>exact rar (by omega) ⟨rfl,hk1,R7,_,S7.up (w':=w8),hnx m hmm (.inr (by omega)),fr8⟩
  have hm1:m<L.length:=by omega
  have hmem:L[m]∈tickR g (cfOf x) s:=by rw [←hL];exact List.getElem_mem hm1
  have hxi:((L.map bytR).map bsOf)[m]? = some (bsOf (bytR L[m])):=by simp [hm1]
  have hro:=(zDl S.ok.1.ok hcf hso hmem).1
  refine rix (O7.sl.up (w':=w8)) hxi fun b9 o9 A9=>rload1 (A9.cell0 rfl) ?_
  refine rcall (zKC hro) ?_
  rintro _ w9 ⟨⟨y,rfl,hy1,hy2⟩,e9⟩
  refine ral fun b10 w10 n10 X10=>?_
  refine rsto (B:=X10) (vs:=enc y) rfl rfl rfl (Enc.one _) fun w11 B11 f11 _=>?_
  have B11:Bk w11 b10 (enc y) E.qc:=B11
  have t11:Stp w9 w11:=⟨Fr.st (Le.e (a:=w9) (b:=w10)) f11 fun i hi=>by subst hi;exact n10.lo⟩
  refine ite (fun h=>absurd rfl h) (fun _=>?_)
  refine rld (B:=B11) rfl ?_
  refine ite (fun hyn=>?_) (fun hyn=>?_)
  case refine_2 =>
   refine rar (by omega) ⟨rfl,hm1,fun j hj h0 h01=>?_,stp⟩
   have q_:=Nat.lt_or_ge j m
   rcases q_ with h02|h02
   ·exact hmm j hj h02 h01
   ·have h03:j=m:=by omega
    subst h03
    rw [←hy1];exact hyn
  have q_:=hrq (by omega)
  obtain⟨q,hq1,hq2,hq3⟩:=q_
  have q_:=zOp hcf hso hal hmem
  obtain⟨q',hq4,hq5,hq6⟩:=q_
  have hqq:q'=q:=zGt hso hq4 hq2 (by omega)
  subst hqq
  have hpz:∃z,z=L[m]:=⟨_,rfl⟩
  obtain⟨z,hz⟩:=hpz
  rw [←hz] at hxi hy1 hy2 hq5 hq6
  have halone:y.code=0→∀u:World,Sp PP F.zr #[agg x,txt im,txt f0] u fun v w'=>Own u.heap.size E.qf w' v [bsOf (bytR z)]∧Stp u w':=fun hc0 u=>by
   have hz2:z.2.1=0:=by omega
   have D:=zI7 (w:=u) him (f:=f0) (by omega) hc hi hq3 (hq6 hz2)
   have hzz:(q'.id,(0:Int),z.2.2)=z:=Prod.ext hq5 (Prod.ext hz2.symm rfl)
   rw [hzz] at D
   exact D
  refine drawRT TBok mixed (fun _=>False) (.one 0 (.one 1 (.one 2 (.one 3 (.one 4 (.one 5 (.one 6 (.one 7 (.one 8 (.one 9 (.one 10 (.one 11 (.one 12 (.one 14 (.one 15 (.one 16 (.one 17 (.two 13 (.one 18 (.one 19 (.one 20 (.one 21 (.one 22 .nil))))) 18 (.one 13 (.one 19 (.one 20 (.one 21 (.one 22 .nil))))))))))))))))))))))) (by kernel_rfl) fun w12 e12 _=>?_
  refine rcall zAa ?_
  rintro _ w13 ⟨rfl,e13⟩
  refine⟨e13.e,?_⟩
  refine tld (B:=B11) rfl not_false ?_
  refine ite (fun hc0=>?_) (fun hc0=>?_)
  ·exact⟨⟨rfl,stp⟩,⟨rfl,stp⟩⟩
  have D:=halone (by omega)
  refine tldG (ds:=enc x) (B:=B1) rfl (Enc.len _) not_false ?_
  refine tix (h.up (w':=w13)) hip fun b14 o14 A14 _=>tload1 (A14.cell 1 rfl) not_false ?_
  refine tix (O7.sl.up (w':=w13)) hxi fun b15 o15 A15 _=>tload1 (A15.cell0 rfl) not_false ?_
  refine⟨?_,?_⟩
  ·refine rcall (D w13) ?_
   rintro v16 w16 ⟨O16,e16⟩
   refine⟨e16.e,?_⟩
   refine rbs1 (bsOf (bytR z)) rfl rfl (by decide) fun b17 w17 e17 _ S17=>⟨e17.e,?_⟩
   have O17:=O16.up (w':=w17)
   have q_:=O17.shape
   obtain⟨a17,c17,rfl⟩:=q_
   refine rcall ((zE4 O17.sl S17 (by simp)).tt rfl) ?_
   rintro _ w18 ⟨rfl,e18⟩
   refine⟨e18.e,?_⟩
   exact⟨rfl,stp⟩
  ·refine rbs1 (bsOf (bytR z)) rfl rfl (by decide) fun b17 w17 e17 _ S17=>⟨e17.e,?_⟩
   refine rcall (D w17) ?_
   rintro v16 w16 ⟨O16,e16⟩
   refine⟨e16.e,?_⟩
   have q_:=O16.shape
   obtain⟨a17,c17,rfl⟩:=q_
   refine rcall ((zE4 O16.sl (S17.up (w':=w16)) (by simp)).tt rfl) ?_
   rintro _ w18 ⟨rfl,e18⟩
   refine⟨e18.e,?_⟩
   exact⟨rfl,stp⟩
theorem zDk{c:Nat}{l:List Int}(h:SlF w (.slice a n c) l)(hl:l.length≤1000000):Sp PP F.qar #[.slice a n c] w fun v w'=>Tells l.Nodup v∧Stp w w':=by
 have q_:=h.len
 obtain rfl:=q_
 refine en TBok rfl ?_
 refine cnt TBok 4 [2] 3 l.length (fun k u=>(l.take k).Nodup∧Stp w u) rfl rfl ⟨by simp,stp⟩ ?_
 rintro k G u hk ⟨hn,su⟩
 refine ite (fun hlt=>?_) (fun hge=>?_)
 ·have hk1:k<l.length:=by omega
  refine cnt TBok 5 [2] 4 k (fun j u'=>(∀i,(hi:i<j)→(hl':i<l.length)→l[i]≠l[k])∧Stp u u') rfl rfl ⟨fun i hi=>by omega,stp⟩ ?_
  rintro j G' u' hj ⟨hb,su'⟩
  refine ite (fun hlt2=>?_) (fun hge2=>?_)
  ·have hj1:j<k:=by omega
   have hjl:j<l.length:=by omega
   refine drawR TBok mixed (fun _=>False) (upF 9 0) (by kernel_rfl) fun u1 e1 _=>?_
   refine tix (h.up (w':=u1)) (x:=l[k]) (by simp) fun b1 o1 A1 _=>tload1 (A1.cell0 rfl) not_false ?_
   refine tix (h.up (w':=u1)) (x:=l[j]) (by simp) fun b2 o2 A2 _=>tload1 (A2.cell0 rfl) not_false ?_
   refine ite (fun h3=>?_) (fun h3=>?_)
   ·exact⟨.f fun hd=>by
     have h4:=(List.pairwise_iff_getElem.1 hd) j k hjl hk1 hj1
     exact h4 h3.symm,stp⟩
   ·refine rar (by omega) ⟨rfl,hj1,fun i hi hl'=>?_,stp⟩
    have q_:=Nat.lt_or_ge i j
    rcases q_ with h4|h4
    ·exact hb i h4 hl'
    ·have h5:i=j:=by omega
     subst h5
     exact fun h6=>h3 h6.symm
  ·have h5:j=k:=by omega
   subst h5
   refine rar (by omega) ⟨rfl,hk1,?_,stp⟩
   rw [zAb hk1,List.nodup_append]
   refine⟨hn,by simp,fun y hy z hz=>?_⟩
   rw [List.mem_singleton] at hz
   subst hz
   have q_:=List.mem_iff_getElem.1 hy
   obtain⟨i,hi,rfl⟩:=q_
   rw [List.length_take] at hi
   rw [List.getElem_take]
   exact hb i (by omega) (by omega)
 ·have h5:k=l.length:=by omega
  subst h5
  rw [List.take_length] at hn
  exact⟨.t hn,su⟩
def sumW (g:GrD) (W:Nat) (h:Hs) (j:Nat):Nat:=((List.range j).map fun k=>liveW g W h k).sum
theorem zFd(g:GrD)(W:Nat)(h:Hs)(j:Nat):sumW g W h (j+1)=sumW g W h j+liveW g W h j:=by
 unfold sumW
 rw [List.range_succ,List.map_append,List.sum_append]
 simp
theorem zK1{W:Nat}{h:Hs}{p:Nat}:∀{j:Nat},(∀k,k<j→liveW g W h k≤p)→sumW g W h j≤j*p
 |0,_=>by simp [sumW]
 |j+1,hp=>by
  have h1:=zK1 (j:=j) fun k hk=>hp k (by omega)
  have h2:=hp j (by omega)
  rw [zFd,Nat.add_mul];omega
theorem zJS{W:Nat}{h:Hs}(e:idsH h=[]):∀j,sumW g W h j=0
 |0=>by simp [sumW]
 |j+1=>by rw [zFd,zJS e j,zJb e]
set_option maxHeartbeats 4000000 in
theorem zFE{x:RCfg}{im:List UInt8}(him:im.length≤4611686018427387904){c:Nat}{l:List REv}(h:SlF w (.slice a n c) l)(hm:EvsM w l):
  Sp PP F.p4 #[agg x,txt im,.slice a n c] w fun v w'=>v=.bool true∧Stp w w':=by
 have q_:=h.len
 obtain rfl:=q_
 refine en TBok rfl ?_
 refine rbx fun b w1 n1 B1=>?_
 have B1:Bk w1 b (enc x) E.qn:=B1
 refine rldG (B:=B1) rfl rfl ?_
 by_cases hq:cfgOk x∧∃g,imgOf im=some g
 case neg =>
  refine rcall (zDI him hq) ?_
  rintro _ w2 ⟨⟨e,rfl,he⟩,e2⟩
  refine rldG (B:=B1) rfl rfl ?_
  refine rcall (zAQ h.up) ?_
  rintro _ w4 ⟨rfl|⟨rfl,hs,hi⟩,e4⟩
  ·refine rcall zAa ?_
   rintro _ w5 ⟨rfl,e5⟩
   exact⟨rfl,stp⟩
  ·refine rpnil ?_
   refine rcall zAa ?_
   rintro _ w5 ⟨rfl,e5⟩
   exact⟨rfl,stp⟩
 obtain⟨hc,g,hi⟩:=hq
 refine rcall (zCE him hc hi) ?_
 rintro _ w2 ⟨⟨bs,rfl,S0⟩,e2⟩
 have z2:=e2.e.size
 refine rldG (B:=B1) rfl rfl ?_
 refine rcall (zAQ h.up) ?_
 rintro _ w4 ⟨rfl|⟨rfl,hs,hi4⟩,e4⟩
 ·refine rcall zAa ?_
  rintro _ w5 ⟨rfl,e5⟩
  exact⟨rfl,stp⟩
 refine rpnil ?_
 refine ite (fun h=>absurd rfl h) (fun _=>?_)
 have z4:=e4.e.size
 refine cnt TBok 10 [6] 9 l.length (fun k u=>Sv1 w1.heap.size w4 u bs g (cfOf x) fun _=>True) rfl rfl ⟨_,_,S0.up (w':=w4),trivial,Fr.refl _ _⟩ ?_
 rintro k G u hk ⟨R,s,S,_,fu⟩
 have su:Stw w1 w4 u:=⟨fu⟩
 have zu:=fu.size
 refine ite (fun hlt=>?_) (fun hge=>?_)
 ·have hk1:k<l.length:=by omega
  have hiy:l[k]? = some l[k]:=by simp
  have q_:∃y,y=l[k]:=⟨_,rfl⟩
  obtain⟨y,hy⟩:=q_
  rw [←hy] at hiy
  have hym:y∈l:=by rw [hy];exact List.getElem_mem hk1
  have q_:=hm y hym
  obtain⟨ps,hps⟩:=q_
  have hyf:=(hs.2 y hym).1
  have hl80:=hs.1
  obtain⟨yt,yf,pa,pn,pc⟩:=y
  have hps:SlF w (.slice pa pn pc) ps:=hps
  have hyf:yf.length≤300:=hyf
  cases yt
  all_goals
   refine rix (i:=k) (h.up (w':=u)) hiy fun b1 o1 A1=>?_
   refine rloadA A1 rfl ?_
   refine ral fun b2 u2 n2 X2=>?_
   refine rsto (B:=X2) (vs:=enc (⟨_,yf,pa,pn,pc⟩:REv)) rfl rfl rfl (Enc.one _) fun u3 B3 f3 _=>?_
   have B3:Bk u3 b2 (enc (⟨_,yf,pa,pn,pc⟩:REv)) E.q5:=B3
   have t3:Stp u u3:=⟨Fr.st (Le.e (a:=u) (b:=u2)) f3 fun i hi=>by subst hi;exact n2.lo⟩
   have z3':=t3.e.size
   have S3:=S.up (w':=u3)
   refine rld (B:=B3) rfl ?_
   have hp1:∀v,Fr R u3 v→SlF v (.slice pa pn pc) ps:=fun v fv=>by
    have t:Stw w1 u3 v:=S3.stw fv (Nat.le_refl _)
    exact SlF.up (w:=w) hps
  case' true =>
   refine rld (B:=B3) rfl ?_
   refine rcall (zAm S3 (by omega) hp1) ?_
   rintro v5 u5 ⟨R',_,_,S5,_,f5⟩
   generalize (tickS g (cfOf x) s).1=s' at S5
  case' false =>
   refine rld (B:=B3) rfl ?_
   refine rcall (zAA (f:=yf) S3 (by omega) (by omega)) ?_
   rintro v5 u5 ⟨_,S5,f5⟩
   generalize (comeS g (cfOf x) s yf).1=s' at S5
   generalize gR R u3 u5=R' at S5
  all_goals
   have t5:Stw w1 u3 u5:=S3.stw f5 (Nat.le_refl _)
   have fr5:=(fu.trans (Fr.fr t3.e)).trans (S3.frB f5)
   have q_:=S5.ok
   obtain⟨_,hcf,hso⟩:=q_
   have hidl:=zI5 hso
   have hpool:∀k,k<(cfOf x).workers→liveW g (cfOf x).workers s'.held k≤(cfOf x).pool:=fun k hk=>zLX hso hk
   have hW:((cfOf x).workers:Int)=x.workers:=Int.toNat_of_nonneg (by have:=hc.1.1;omega)
   have hP:((cfOf x).pool:Int)=x.pool:=Int.toNat_of_nonneg (by have:=hc.2.2.2.1.1;omega)
   have hS:((cfOf x).slots:Int)=x.slots:=Int.toNat_of_nonneg (by have:=hc.2.1.1;omega)
   have hQ:((cfOf x).queue:Int)=x.queue:=Int.toNat_of_nonneg (by have:=hc.2.2.1.1;omega)
   refine rcall (zB4 S5) ?_
   rintro v6 u6 ⟨O6,g6⟩
   have q_:=O6.shape
   obtain⟨a6,c6,rfl⟩:=q_
   have hw16:=hcf.workers
   have hp400:=hcf.pool
   have hs64:=hcf.slots
   have hq1000:=hcf.queue
   have hl6:((List.range (cfOf x).workers).map fun k=>(liveW g (cfOf x).workers s'.held k:Int)).length=(cfOf x).workers:=by simp
   refine cnt1 TBok 14 [6] 12 13 (cfOf x).workers (fun j v u'=>v=.int .i64 ((sumW g (cfOf x).workers s'.held j:Nat):Int)∧Stp u6 u') rfl rfl ⟨rfl,stp⟩ ?_
   rintro j _ G' u7 hj ⟨rfl,su7⟩
   refine ite (fun hlt2=>?_) (fun hge2=>?_)
   ·have hj1:j<(cfOf x).workers:=by omega
    have hlv:=hpool j hj1
    have hsum:sumW g (cfOf x).workers s'.held j≤6400:=Nat.le_trans (zK1 fun k hk=>hpool k (by omega)) (Nat.mul_le_mul (show j≤16 by omega) hp400.2)
    have hxv:((List.range (cfOf x).workers).map fun k=>(liveW g (cfOf x).workers s'.held k:Int))[j]? = some ((liveW g (cfOf x).workers s'.held j:Nat):Int):=by simp [hj1]
    have hnext:Value.int .i64 (((sumW g (cfOf x).workers s'.held j:Nat):Int)+((liveW g (cfOf x).workers s'.held j:Nat):Int))=Value.int .i64 ((sumW g (cfOf x).workers s'.held (j+1):Nat):Int):=by rw [zFd,Int.natCast_add]
    refine drawR TBok mixed (fun _=>False) (upF 14 0) (by kernel_rfl) fun u8 e8 _=>?_
    refine tix (O6.sl.up (w':=u8)) hxv fun b9 o9 A9 _=>tload1 (A9.cell0 rfl) not_false ?_
    refine ite (fun h2=>absurd h2 (by omega)) (fun _=>?_)
    refine tix (O6.sl.up (w':=u8)) hxv fun b9 o9 A9 _=>tload1 (A9.cell0 rfl) not_false ?_
    refine tload1 ((Bk.at (w:=u8) B1).cell 3 rfl) not_false ?_
    refine ite (fun h3=>absurd h3 (by omega)) (fun _=>?_)
    refine rix (O6.sl.up (w':=u8)) hxv fun b9 o9 A9=>rload1 (A9.cell0 rfl) ?_
    refine rar (by omega) ?_
    refine rar (by omega) ⟨rfl,hj1,hnext,stp⟩
   ·have hjW:j=(cfOf x).workers:=by omega
    subst hjW
    refine rcall (zB3 (S5.up (w':=u7))) ?_
    rintro v9 u9 ⟨O9,e9⟩
    have q_:=O9.shape
    obtain⟨a9,c9,rfl⟩:=q_
    refine rapp (u:=u7) ⟨rfl,rfl⟩ (Own.nil _ E.qa _) O9.sl (by simp;omega) fun v10 u10 O10 f10 s10=>?_
    rw [List.nil_append] at O10
    have q_:=O10.shape
    obtain⟨a10,c10,rfl⟩:=q_
    refine rcall (zBR (S5.up (w':=u10))) ?_
    rintro v11 u11 ⟨O11,e11⟩
    have q_:=O11.shape
    obtain⟨a11,c11,rfl⟩:=q_
    refine rapp (u:=u7) ⟨rfl,rfl⟩ (O10.up (w':=u11)) O11.sl (by constructor <;> omega) fun v12 u12 O12 f12 s12=>?_
    have q_:=O12.shape
    obtain⟨a12,c12,rfl⟩:=q_
    have hl12:(idsH s'.held++idsW s'.wait).length=(idsH s'.held).length+(idsW s'.wait).length:=List.length_append
    refine rld (B:=B1) rfl ?_
    refine ite (fun h2=>absurd (by omega) h2) (fun _=>?_)
    refine rld (B:=B1) rfl ?_
    refine ite (fun h2=>absurd h2 (by omega)) (fun _=>?_)
    refine rar (by omega) ?_
    refine rld (B:=B1) rfl ?_
    refine ite (fun h2=>absurd h2 (by omega)) (fun _=>?_)
    refine ite (fun h0=>?_) (fun h0=>?_)
    ·have e0:idsH s'.held=[]:=List.eq_nil_of_length_eq_zero (by omega)
     have h00:=zJS (g:=g) (W:=(cfOf x).workers) e0 (cfOf x).workers
     refine ite (fun h2=>absurd h2 (by omega)) (fun _=>?_)
     refine rcall ((zDk O12.sl (by omega)).tt hso.ids) ?_
     rintro _ u13 ⟨rfl,e13⟩
     exact rar (by omega) ⟨rfl,hk1,R',s',S5.up (w':=u13),trivial,fr5.trans (Fr.fr (Le.e (a:=u5) (b:=u13)))⟩
    ·refine rcall ((zDk O12.sl (by omega)).tt hso.ids) ?_
     rintro _ u13 ⟨rfl,e13⟩
     exact rar (by omega) ⟨rfl,hk1,R',s',S5.up (w':=u13),trivial,fr5.trans (Fr.fr (Le.e (a:=u5) (b:=u13)))⟩
 ·refine rcall zAa ?_
  rintro _ v1 ⟨rfl,g1⟩
  exact⟨rfl,stp⟩
theorem zMx{P:Nat→Prop}:∀b,Value.blk (.slice none 0 0)=some b→P b:=fun b hb=>nomatch hb
set_option maxHeartbeats 4000000 in
theorem zEH{x:RCfg}{im:List UInt8}(him:im.length≤4611686018427387904){c:Nat}{l:List REv}(h:SlF w (.slice a n c) l)(hm:EvsM w l):
  Sp PP F.pd #[agg x,txt im,.slice a n c] w fun v w'=>v=.bool true∧Stp w w':=by
 have q_:=h.len
 obtain rfl:=q_
 refine en TBok rfl ?_
 refine rbx fun b w1 n1 B1=>?_
 have B1:Bk w1 b (enc x) E.qn:=B1
 refine rldG (B:=B1) rfl rfl ?_
 by_cases hq:cfgOk x∧∃g,imgOf im=some g
 case neg =>
  refine rcall (zDI him hq) ?_
  rintro _ w2 ⟨⟨e,rfl,he⟩,e2⟩
  refine rldG (B:=B1) rfl rfl ?_
  refine rcall (zAQ h.up) ?_
  rintro _ w4 ⟨rfl|⟨rfl,hs,hi⟩,e4⟩
  ·refine rcall zAa ?_
   rintro _ w5 ⟨rfl,e5⟩
   exact⟨rfl,stp⟩
  ·refine rld (B:=B1) rfl ?_
   refine ite (fun h12=>?_) (fun h12=>?_)
   ·refine rcall zAa ?_
    rintro _ w5 ⟨rfl,e5⟩
    exact⟨rfl,stp⟩
   ·refine rpnil ?_
    refine rcall zAa ?_
    rintro _ w5 ⟨rfl,e5⟩
    exact⟨rfl,stp⟩
 obtain⟨hc,g,hi⟩:=hq
 refine rcall (zCE him hc hi) ?_
 rintro _ w2 ⟨⟨bs,rfl,S0⟩,e2⟩
 have z2:=e2.e.size
 refine rldG (B:=B1) rfl rfl ?_
 refine rcall (zAQ h.up) ?_
 rintro _ w4 ⟨rfl|⟨rfl,hs,hi4⟩,e4⟩
 ·refine rcall zAa ?_
  rintro _ w5 ⟨rfl,e5⟩
  exact⟨rfl,stp⟩
 refine rld (B:=B1) rfl ?_
 refine ite (fun h12=>?_) (fun h12=>?_)
 ·refine rcall zAa ?_
  rintro _ w5 ⟨rfl,e5⟩
  exact⟨rfl,stp⟩
 refine rpnil ?_
 refine ite (fun h=>absurd rfl h) (fun _=>?_)
 have z4:=e4.e.size
 have hBu:((cfOf x).budget:Int)=x.budget:=Int.toNat_of_nonneg (by have:=hc.2.2.2.2.1;omega)
 have hWu:((cfOf x).workers:Int)=x.workers:=Int.toNat_of_nonneg (by have:=hc.1.1;omega)
 refine cnt TBok 10 [] 9 l.length (fun k u=>Sv1 w1.heap.size w4 u bs g (cfOf x) fun _=>True) rfl rfl ⟨_,_,S0.up (w':=w4),trivial,Fr.refl _ _⟩ ?_
 rintro k G u hk ⟨R,s,S,_,fu⟩
 have su:Stw w1 w4 u:=⟨fu⟩
 have zu:=fu.size
 refine ite (fun hlt=>?_) (fun hge=>?_)
 ·have hk1:k<l.length:=by omega
  have hiy:l[k]? = some l[k]:=by simp
  have q_:∃y,y=l[k]:=⟨_,rfl⟩
  obtain⟨y,hy⟩:=q_
  rw [←hy] at hiy
  have hym:y∈l:=by rw [hy];exact List.getElem_mem hk1
  have q_:=hm y hym
  obtain⟨ps,hps⟩:=q_
  have hyf:=(hs.2 y hym).1
  have hl80:=hs.1
  obtain⟨yt,yf,pa,pn,pc⟩:=y
  have hps:SlF w (.slice pa pn pc) ps:=hps
  have hyf:yf.length≤300:=hyf
  have hp1:∀v,Fr R u v→SlF v (.slice pa pn pc) ps:=fun v fv=>by
   have t:Stw w1 u v:=S.stw fv (Nat.le_refl _)
   exact SlF.up (w:=w) hps
  refine rix (i:=k) (h.up (w':=u)) hiy fun b1 o1 A1=>?_
  refine rload1 (A1.cell 0 rfl) ?_
  cases yt with
  |true =>
   refine rix (i:=k) (h.up (w':=u)) hiy fun b2 o2 A2=>?_
   refine rload1 (A2.cell 2 rfl) ?_
   refine rcall (zAm S (by omega) hp1) ?_
   rintro v5 u5 ⟨R',_,_,S5,_,f5⟩
   have fr5:=fu.trans (S.frB f5)
   exact rar (by omega) ⟨rfl,hk1,R',_,S5,trivial,fr5⟩
  |false =>
   refine rix (i:=k) (h.up (w':=u)) hiy fun b2 o2 A2=>?_
   refine rload1 (A2.cell 1 rfl) ?_
   refine rcall (zAA (f:=yf) S (by omega) (by omega)) ?_
   rintro v5 u5 ⟨_,S5,f5⟩
   have fr5:=fu.trans (S.frB f5)
   exact rar (by omega) ⟨rfl,hk1,_,_,S5,trivial,fr5⟩
 ·have q_:=S.ok
  obtain⟨_,hcf,hso⟩:=q_
  have hidl:=zI5 hso
  have hs64:=hcf.slots
  have hq1000:=hcf.queue
  have hw16:=hcf.workers
  refine rcall (zB3 S) ?_
  rintro v9 u9 ⟨O9,e9⟩
  have q_:=O9.shape
  obtain⟨a9,c9,rfl⟩:=q_
  refine rapp (u:=u) ⟨rfl,rfl⟩ (Own.nil _ E.qa _) O9.sl (by simp;omega) fun v10 u10 O10 f10 s10=>?_
  rw [List.nil_append] at O10
  have q_:=O10.shape
  obtain⟨a10,c10,rfl⟩:=q_
  refine rcall (zBR (S.up (w':=u10))) ?_
  rintro v11 u11 ⟨O11,e11⟩
  have q_:=O11.shape
  obtain⟨a11,c11,rfl⟩:=q_
  refine rapp (u:=u) ⟨rfl,rfl⟩ (O10.up (w':=u11)) O11.sl (by constructor <;> omega) fun v12 u12 O12 f12 s12=>?_
  have q_:=O12.shape
  obtain⟨a12,c12,rfl⟩:=q_
  have hl12:(idsH s.held++idsW s.wait).length=(idsS s).length:=rfl
  have hlS:(idsS s).length=(idsH s.held).length+(idsW s.wait).length:=List.length_append
  have z12:=Le.size (a:=u) (b:=u12)
  have q_:∃N,N=((idsS s).length+1)*((cfOf x).budget+2):=⟨_,rfl⟩
  obtain⟨N,hN⟩:=q_
  have hN2:N≤1065*14:=hN ▸ Nat.mul_le_mul (by omega) (by omega)
  have hNI:(((idsH s.held++idsW s.wait).length:Int)+1)*(x.budget+2)=(N:Int):=by
   rw [hN,hl12,←hBu,Int.natCast_mul,Int.natCast_add,Int.natCast_add];rfl
  refine cnt1 TBok 13 [6] 11 12 N (fun j v u'=>∃R,SrvP R w1.heap.size u' bs g (cfOf x) (ticksS g (cfOf x) j s).1∧Own w1.heap.size E.qa u' v (ticksS g (cfOf x) j s).2∧(∀b,Value.blk v=some b→b<u'.heap.size∧¬R b)∧Fr (fun i=>w1.heap.size≤i) w4 u') rfl rfl
   ⟨R,S.up (w':=u12),Own.nil _ _ _,zMx,fu.trans (Fr.fr (Le.e (a:=u) (b:=u12)))⟩ ?_
  rintro j v G' u' hj ⟨R,S,O,hbl,fu'⟩
  have su':Stw w1 w4 u':=⟨fu'⟩
  have zu':=fu'.size
  have q_:=S.ok
  obtain⟨_,_,hsj⟩:=q_
  have hgl:=zJW hcf hso j
  refine rar (by omega) ?_
  refine rld (B:=B1) rfl ?_
  refine rar (by omega) ?_
  refine rarE hNI (by omega) ?_
  refine ite (fun hlt2=>?_) (fun hge2=>?_)
  ·have hj1:j<N:=by omega
   refine rcall (zAm (ps:=[]) S (by omega) fun u _=>SlF.nil u) ?_
   rintro v5 u5 ⟨R5,O5,hoff,S5,hR5,f5⟩
   have t5:Stw w1 u' u5:=S.stw f5 (Nat.le_refl _)
   have z5:=f5.size
   have hb5:∀b,Value.blk v=some b→b<u5.heap.size∧¬R5 b:=fun b hb=>by
    have h1:=hbl b hb
    refine⟨by omega,fun h2=>?_⟩
    have q_:=hR5 b h2
    rcases q_ with h3|h3
    ·exact h1.2 h3
    ·omega
   have O5':=O.fr f5 fun b _ hb hr=>(hbl b hb).2 hr
   have hgo:=zGx hcf hsj
   have hlt:=zGy S
   have fu5:=fu'.trans (S.frB f5)
   have q_:∃L,L=tickR g (cfOf x) (ticksS g (cfOf x) j s).1:=⟨_,rfl⟩
   obtain⟨L,hL⟩:=q_
   rw [zB6,←hL] at O5
   rw [zB6,←hL] at hlt
   have hnext:ticksS g (cfOf x) (j+1) s=((tickS g (cfOf x) (ticksS g (cfOf x) j s).1).1,(ticksS g (cfOf x) j s).2++(tickR g (cfOf x) (ticksS g (cfOf x) j s).1).map (·.1)):=rfl
   rw [←hL] at hnext
   have q_:∃n,n=((L.map bytR).map bsOf).length:=⟨_,rfl⟩
   obtain⟨n5,hn5⟩:=q_
   have q_:=O5.shape
   obtain⟨a5,c5,hv5⟩:=q_
   rw [←hn5] at hv5
   subst hv5
   have O5n:(L.map bytR).length=L.length:=List.length_map ..
   have hLl:((L.map bytR).map bsOf).length=L.length:=by simp
   have hrep:∀p∈L,RepOk (repOf p.1 p.2.1 p.2.2) p.2.2.hits:=fun p hp=>(zDl S.ok.1.ok hcf hsj (hL ▸ hp)).1
   have hdis:∀b,Value.blk v=some b→L≠[]→Value.blk (.slice a5 n5 c5)≠some b:=fun b hb hne h2=>by
    have q_:=O5.lt (by simpa using hne)
    obtain⟨b',h3,h4,_⟩:=q_
    have h5:=(hbl b hb).1
    rw [h3] at h2;cases h2;omega
   have q_:∃base,base=(ticksS g (cfOf x) j s).2:=⟨_,rfl⟩
   obtain⟨base,hbase⟩:=q_
   rw [←hbase] at O O5' hgl hnext
   have hbl2:(base++L.map (·.1)).length≤(idsS s).length:=by
    have:=zJW hcf hso (g:=g) (j+1)
    rw [hnext] at this;exact this
   have hlb:(base++L.map (·.1)).length=base.length+L.length:=by rw [List.length_append,List.length_map]
   refine cnt1 TBok 15 [6] 11 14 L.length (fun i v u'=>SrvP R5 w1.heap.size u' bs g (cfOf x) (tickS g (cfOf x) (ticksS g (cfOf x) j s).1).1∧Own w1.heap.size E.qa u' v (base++(L.take i).map (·.1))∧(∀b,Value.blk v=some b→b<u'.heap.size∧¬R5 b∧(L≠[]→Value.blk (.slice a5 n5 c5)≠some b))∧SlF u' (.slice a5 n5 c5) ((L.map bytR).map bsOf)∧Fr (fun i=>w1.heap.size≤i) w4 u') rfl rfl
    ⟨S5,(by simpa using O5':Own w1.heap.size E.qa u5 v (base++(L.take 0).map (·.1))),(fun b hb=>⟨(hb5 b hb).1,(hb5 b hb).2,hdis b hb⟩:∀b,Value.blk v=some b→b<u5.heap.size∧¬R5 b∧(L≠[]→Value.blk (.slice a5 n5 c5)≠some b)),O5.sl,fu5⟩ ?_
   rintro i v7 G7 u7 hi7 ⟨S7,O7,hb7,X7,fu7⟩
   have su7:Stw w1 w4 u7:=⟨fu7⟩
   have zu7:=fu7.size
   refine ite (fun hlt3=>?_) (fun hge3=>?_)
   ·have h9:(i:Int)<((n5:Nat):Int):=hlt3
    clear hlt3
    have hi1:i<L.length:=by omega
    have hne:L≠[]:=fun h0=>by rw [h0] at hi1;cases hi1
    have hxi:((L.map bytR).map bsOf)[i]? = some (bsOf (bytR L[i])):=by simp [hi1]
    refine rix X7 hxi fun b9 o9 A9=>rload1 (A9.cell0 rfl) ?_
    refine rcall (idB_sp (hrep L[i] (List.getElem_mem hi1))) ?_
    rintro _ u8 ⟨rfl,e8⟩
    refine rbs1 (L[i].1:Int) rfl rfl (by decide) fun b10 u10 e10 _ S10=>?_
    have z8:=Le.size (a:=u7) (b:=u10)
    refine rappD ⟨rfl,rfl⟩ (O7.up (w':=u10)) S10 (by simp) (by omega) (by rw [List.length_append,List.length_map,List.length_take];simp only [List.length_cons,List.length_nil];omega) fun v11 u11 O11 f11 hv11=>?_
    have z11:=f11.size
    have hD:∀b,ownD w1.heap.size v7 b→w1.heap.size≤b∧Value.blk v7=some b:=fun b hb=>⟨hb.1,hb.2.1⟩
    have S11:=(S7.up (w':=u10)).away f11 fun b hb hr=>(hb7 b (hD b hb).2).2.1 hr
    have X11:SlF u11 (.slice a5 n5 c5) ((L.map bytR).map bsOf):=(X7.up (w':=u10)).fr f11 fun b hb hr=>(hb7 b (hD b hr).2).2.2 hne hb
    have fu11:=(fu7.trans (Fr.fr (Le.e (a:=u7) (b:=u10)))).trans (f11.mono fun b _ hb=>(hD b hb).1)
    have O12:Own w1.heap.size E.qa u11 v11 (base++(L.take (i+1)).map (·.1)):=by rw [zAb hi1,List.map_append,←List.append_assoc];exact O11
    have hb12:∀b,Value.blk v11=some b→b<u11.heap.size∧¬R5 b∧(L≠[]→Value.blk (.slice a5 n5 c5)≠some b):=fun b hb=>by
     rcases hv11 with h1|h1
     ·rw [h1] at hb
      have h2:=hb7 b hb
      exact⟨by omega,h2.2⟩
     ·rw [h1] at hb;cases hb
      refine⟨?_,fun h2=>?_,fun _ h2=>?_⟩
      ·have q_:=O11.lt (by simp)
       obtain⟨b',h4,_,h5⟩:=q_
       rw [h1] at h4;cases h4;exact h5
      ·have:=((SrvX.reg S7).1 _ h2).2;omega
      ·have q_:=X7.lt (by simpa using hne)
       obtain⟨b',h4,h5⟩:=q_
       rw [h4] at h2;cases h2;omega
    exact rar (by omega) ⟨rfl,hi1,S11,O12,hb12,X11,fu11⟩
   ·have hi1:i=L.length:=by omega
    have O8:Own w1.heap.size E.qa u7 v7 (ticksS g (cfOf x) (j+1) s).2:=by rw [hnext];rw [hi1,List.take_length] at O7;exact O7
    have S8:SrvP R5 w1.heap.size u7 bs g (cfOf x) (ticksS g (cfOf x) (j+1) s).1:=by rw [hnext];exact S7
    exact rar (by omega) ⟨rfl,hj1,R5,S8,O8,fun b hb=>⟨(hb7 b hb).1,(hb7 b hb).2.1⟩,fu7⟩
  ·have hjN:j=N:=by omega
   subst hjN
   have hall:=zMo (g:=g) hcf hso (n:=j) (by omega)
   refine rcall (zB4 S) ?_
   rintro v6 u6 ⟨O6,g6⟩
   have q_:=O6.shape
   obtain⟨a6,c6,rfl⟩:=q_
   have hid:idsH (ticksS g (cfOf x) j s).1.held=[]∧idsW (ticksS g (cfOf x) j s).1.wait=[]:=List.append_eq_nil_iff.1 hall.1
   have hl6:((List.range (cfOf x).workers).map fun k=>(liveW g (cfOf x).workers (ticksS g (cfOf x) j s).1.held k:Int)).length=(cfOf x).workers:=by simp
   refine cnt TBok 19 [6] 18 (cfOf x).workers (fun i u'=>Stp u6 u') rfl rfl stp ?_
   rintro i G2 u7 hi7 su7
   refine ite (fun hlt3=>?_) (fun hge3=>?_)
   ·have hi1:i<(cfOf x).workers:=by omega
    have hxv:((List.range (cfOf x).workers).map fun k=>(liveW g (cfOf x).workers (ticksS g (cfOf x) j s).1.held k:Int))[i]? = some 0:=by
     simp [hi1,zJb hid.1]
    refine rix (O6.sl.up (w':=u7)) hxv fun b9 o9 A9=>rload1 (A9.cell0 rfl) ?_
    refine ite (fun h3=>absurd rfl h3) (fun _=>?_)
    exact rar (by omega) ⟨rfl,hi1,stp⟩
   ·refine rcall zAa ?_
    rintro _ u8 ⟨rfl,e8⟩
    have Og:=O.up (w':=u8)
    have q_:=Og.shape
    obtain⟨ag,cg,rfl⟩:=q_
    have hpl:=hall.2.1.length_eq
    refine ite (fun _=>?_) (fun h3=>absurd (by omega) h3)
    refine rcall ((zDk Og.sl (by omega)).tt hall.2.2) ?_
    rintro _ u9 ⟨rfl,e9⟩
    refine rcall (zB3 (S.up (w':=u9))) ?_
    rintro v10 u10 ⟨O10',e10⟩
    rw [hid.1] at O10'
    have q_:=O10'.shape
    obtain⟨a13,c13,rfl⟩:=q_
    refine ite (fun _=>?_) (fun h=>absurd rfl h)
    refine rcall (zBR (S.up (w':=u10))) ?_
    rintro v11 u11 ⟨O11',e11⟩
    rw [hid.2] at O11'
    have q_:=O11'.shape
    obtain⟨a14,c14,rfl⟩:=q_
    refine ite (fun _=>?_) (fun h=>absurd rfl h)
    refine rld (B:=B1) rfl ?_
    refine ite (fun _=>?_) (fun h3=>absurd (by omega) h3)
    exact⟨rfl,stp⟩
end Go.W
