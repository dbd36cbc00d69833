/-
  Proved here: a part of the walks and plain laws of this claim (merged by a program of mine).
  Conditions: those that each fact names.
-/
import Derived.Shelf.Lays
import Derived.Shelf.Strings.BuilderX
import Derived.KernelRfl
import Derived.Test.YtgjanodnkajinaaGreatProg
import Derived.Shelf.SlLaysNS
import Derived.Test.YtgjanodnkajinaaGreatV3
set_option linter.unusedVariables false
set_option linter.unusedSimpArgs false
namespace Go.W
open Go Go.Proofs
open Enc (enc)
set_option maxRecDepth 10000
variable {B N i j k m n n2 n3:Nat} {P:Program} {a a2 a3:Option Addr} {g:GrD} {q:QyD} {s:List UInt8} {u w w':World}
theorem zDa{c:Nat}{L:List StD}{bl bs:Nat}{dir v slot:Int}(hB:B≤w.heap.size)(K:Bk w bl [.slice a n c] E.qn)(O:Own B E.qb w (.slice a n c) L)(S:Bk w bs [.int .i64 slot] E.qa)(hL:L.length≤1000):
  Sp PP F.dw #[.int .i64 dir,.int .i64 v,.pointer (some ⟨bl,0,none⟩),.pointer (some ⟨bs,0,none⟩)] w fun _ w'=>(∃a' n' c',Bk w' bl [.slice a' n' c'] E.qn∧Own B E.qb w' (.slice a' n' c') (L++[⟨⟨slot,dir,v⟩,0⟩]))∧Bk w' bs [.int .i64 slot] E.qa∧Fr (fun i=>i=bl∨B≤i) w w':=by
 refine en TBok rfl ?_
 refine rld (B:=K) rfl (rld (B:=S) rfl ?_)
 refine rbuild (cs:=enc (⟨slot,dir,v⟩:KeyD)) rfl ?_
 refine rbuild (cs:=enc (⟨⟨slot,dir,v⟩,0⟩:StD)) rfl ?_
 refine rbs1 (⟨⟨slot,dir,v⟩,0⟩:StD) rfl rfl (by decide) fun b1 w1 n1 _ S1=>?_
 have z1:=Le.size (a:=w) (b:=w1)
 refine rappB ⟨rfl,rfl⟩ (O.up (w':=w1)) S1 (by omega) (by simp;omega) fun v2 w2 O2 f2=>?_
 have K2:=(K.mv (w:=w1)).fro (O.up (w':=w1)) f2 (by decide)
 have S2:=(S.mv (w:=w1)).fro (O.up (w':=w1)) f2 (by decide)
 have q2:=O2.shape
 obtain⟨a2,c2,rfl⟩:=q2
 refine rsto (B:=K2) (vs:=[.slice a2 _ c2]) rfl rfl rfl (sv1 _ _ _) fun w3 K3 f3 _=>?_
 have hne:bs≠bl:=by
  rintro rfl
  have h1:=K2.h;have h2:=S2.h
  rw [h1] at h2;cases h2
 exact⟨⟨a2,_,c2,K3,O2.frc f3 K2 (by decide)⟩,S2.fr f3 hne,((Fr.fr n1.e).trans (f2.mono fun i _ hi=>.inr hi.1)).trans (f3.mono fun i _ hi=>.inl hi)⟩
theorem zI4{slot:Int}:mls g q slot 0=(src q 0).map (fun v:Nat=>(⟨⟨slot,0,v⟩,0⟩:StD))++(src q 1).map (fun v:Nat=>(⟨⟨slot,1,v⟩,0⟩:StD)):=rfl
theorem zIm{xq:RQ}{slot:Int}(hk:xq.kind=q.kind∧xq.frm=q.frm∧xq.to=q.to)(hq:QyOk q g.n):
  Sp PP F.cl #[agg xq,.int .i64 slot] w fun v w'=>Own w.heap.size E.qb w' v (mls g q slot 0)∧Stp w w':=by
 obtain⟨hk1,hk2,hk3⟩:=hk
 have hfrm:=hq.frm
 have hkind:=hq.kind
 have hs0:src q 0=[q.frm.toNat]:=rfl
 refine en TBok rfl ?_
 refine rbx fun bq w1 n1 Bq=>rbx fun bs w2 n2 Bs=>?_
 refine ral fun bl w3 n3 Bl=>?_
 have Bl:Bk w3 bl [.slice none 0 0] E.qn:=Bl
 have hb1:=n1.b;have hs1:=n1.s;have hb2:=n2.b;have hs2:=n2.s;have hb3:=n3.b;have hs3:=n3.s
 refine rld (B:=Bq) rfl ?_
 have S1:=zDa (L:=[]) (dir:=0) (v:=xq.frm) (B:=w3.heap.size) (Nat.le_refl _) Bl (Own.nil _ _ _) (Bs.mv (w:=w3)) (by simp)
 refine ite (fun h1=>?_) (fun h1=>?_)
 ·refine rld (B:=Bq) rfl ?_
  refine rcall S1 ?_
  rintro _ w4 ⟨⟨a4,n4,c4,K4,O4⟩,S4,f4⟩
  have s4:Stp w2 w4:=⟨Fr.st (Le.e (a:=w2) (b:=w3)) f4 fun i hi=>by omega⟩
  refine rld (B:=Bq) rfl ?_
  have z4:=f4.size
  refine rcall (zDa (dir:=1) (v:=xq.to) z4 K4 O4 S4 (by simp)) ?_
  rintro _ w5 ⟨⟨a5,n5,c5,K5,O5⟩,S5,f5⟩
  refine rld (B:=K5) rfl ?_
  have hto:=hq.to (by omega)
  have hs1:src q 1=[q.to.toNat]:=by unfold src;rw [if_neg (by decide),if_pos (by omega)]
  have e:([]:List StD)++[⟨⟨slot,0,xq.frm⟩,0⟩]++[⟨⟨slot,1,xq.to⟩,0⟩]=mls g q slot 0:=by
   rw [zI4,hs0,hs1,hk2,hk3]
   simp only [List.map_cons,List.map_nil,List.nil_append,List.cons_append]
   rw [Int.toNat_of_nonneg hfrm.1,Int.toNat_of_nonneg hto.1]
  rw [e] at O5
  exact⟨O5.mono (by omega),⟨Fr.st (Le.e (a:=w) (b:=w4)) f5 fun i hi=>by omega⟩⟩
 ·have fin:∀(w4:World) (a4:Option Addr) (n4 c4:Nat),Own w3.heap.size E.qb w4 (.slice a4 n4 c4) (([]:List StD)++[⟨⟨slot,0,xq.frm⟩,0⟩])→Own w.heap.size E.qb w4 (.slice a4 n4 c4) (mls g q slot 0):=fun w4 a4 n4 c4 O4=>by
   have hs1:src q 1=[]:=by unfold src;rw [if_neg (by decide),if_neg (by omega)]
   have e:([]:List StD)++[⟨⟨slot,0,xq.frm⟩,0⟩]=mls g q slot 0:=by
    rw [zI4,hs0,hs1,hk2]
    simp only [List.map_cons,List.map_nil,List.nil_append,List.append_nil]
    rw [Int.toNat_of_nonneg hfrm.1]
   rw [←e];exact O4.mono (by omega)
  refine ite (fun h2=>?_) (fun h2=>?_)
  ·refine rld (B:=Bq) rfl ?_
   refine rcall S1 ?_
   rintro _ w4 ⟨⟨a4,n4,c4,K4,O4⟩,S4,f4⟩
   refine rld (B:=K4) rfl ?_
   exact⟨fin w4 _ _ _ O4,⟨Fr.st (Le.e (a:=w) (b:=w3)) f4 fun i hi=>by omega⟩⟩
  ·refine ite (fun h3=>?_) (fun h3=>absurd h3 (by omega))
   refine rld (B:=Bq) rfl ?_
   refine rcall S1 ?_
   rintro _ w4 ⟨⟨a4,n4,c4,K4,O4⟩,S4,f4⟩
   refine rld (B:=K4) rfl ?_
   exact⟨fin w4 _ _ _ O4,⟨Fr.st (Le.e (a:=w) (b:=w3)) f4 fun i hi=>by omega⟩⟩
theorem zAl{v n:Int}{b:Nat}(K:Bk w b [.int .i64 n] E.qa):Sp PP F.dt #[.int .i64 v,.pointer (some ⟨b,0,none⟩)] w fun r w'=>Tells (0≤v∧v<n) r∧w'=w:=by
 refine en TBok rfl ?_
 refine ite (fun h1=>?_) (fun h1=>⟨.f fun h=>h1 h.1,rfl⟩)
 refine rld (B:=K) rfl ?_
 exact ite (fun h2=>⟨.t ⟨h1,h2⟩,rfl⟩) (fun h2=>⟨.f fun h=>h2 h.2,rfl⟩)
theorem zGN{s:ByteArray}(hs:s.size≤1000000):Sp PP F.yq #[.string s] w fun v w'=>Tells (¬WordB s) v∧Stp w w':=by
 refine en TBok rfl ?_
 refine rcall (zEs hs) ?_
 rintro _ w1 ⟨⟨rfl,h⟩|⟨rfl,h⟩,e1⟩
 ·exact⟨.f fun hn=>hn h,stp⟩
 ·exact⟨.t h,stp⟩
theorem zEv{xq:RQ}{n:Int}(V:QyV w xq q)(hl:q.words.length≤1000000)(hs:∀s∈q.words,s.size≤1000000):
  Sp PP F.ce #[agg xq,.int .i64 n] w fun v w'=>((QyIs q n∧v=.int .i64 0)∨(¬QyIs q n∧v=.int .i64 180))∧Stp w w':=by
 obtain⟨k1,k2,k3,kw,k4,k5⟩:=V
 obtain⟨x1,x2,x3,⟨wa,wn,wc⟩,x4,x5⟩:=xq
 simp only at k1 k2 k3 k4 k5
 subst k1 k2 k3 k4 k5
 have hwn:wn=q.words.length:=kw.len
 subst hwn
 have hagg:agg (⟨q.kind,q.frm,q.to,⟨wa,q.words.length,wc⟩,q.rad,q.most⟩:RQ)=.agg #[.int .i64 q.kind,.int .i64 q.frm,.int .i64 q.to,.slice wa q.words.length wc,.int .i64 q.rad,.int .i64 q.most]:=rfl
 rw [hagg]
 refine en TBok rfl ?_
 refine rbx fun bq w1 n1 Bq=>rbx fun bn w2 n2 Bn=>?_
 have NO:¬QyIs q n→∀u:World,Stp w u→((QyIs q n∧Value.int .i64 180=.int .i64 0)∨(¬QyIs q n∧Value.int .i64 180=.int .i64 180))∧Stp w u:=fun h u s=>⟨.inr ⟨h,rfl⟩,s⟩
 have YES:QyIs q n→∀u:World,Stp w u→((QyIs q n∧Value.int .i64 0=.int .i64 0)∨(¬QyIs q n∧Value.int .i64 0=.int .i64 180))∧Stp w u:=fun h u s=>⟨.inl ⟨h,rfl⟩,s⟩
 refine rld (B:=Bq) rfl ?_
 refine ite (fun h1=>?_) (fun h1=>?_)
 ·refine rld (B:=Bq) rfl ?_
  refine rcall (zAl (Bn.mv (w:=w2))) ?_
  rintro _ _ ⟨⟨rfl,h5⟩|⟨rfl,h5⟩,rfl⟩
  case' inr=>exact NO (fun h=>h5 h.2.1) _ stp
  refine rld (B:=Bq) rfl ?_
  refine rcall (zAl (Bn.mv (w:=_))) ?_
  rintro _ _ ⟨⟨rfl,h6⟩|⟨rfl,h6⟩,rfl⟩
  ·exact YES ⟨by omega,h5,fun _=>h6,fun h=>absurd h (by omega)⟩ _ stp
  ·exact NO (fun h=>h6 (h.2.2.1 (by omega))) _ stp
 refine ite (fun h2=>?_) (fun h2=>?_)
 ·refine rld (B:=Bq) rfl ?_
  refine rcall (zAl (Bn.mv (w:=w2))) ?_
  rintro _ _ ⟨⟨rfl,h5⟩|⟨rfl,h5⟩,rfl⟩
  case' inr=>exact NO (fun h=>h5 h.2.1) _ stp
  refine rld (B:=Bq) rfl ?_
  refine rcall (zAl (Bn.mv (w:=_))) ?_
  rintro _ _ ⟨⟨rfl,h6⟩|⟨rfl,h6⟩,rfl⟩
  ·exact YES ⟨by omega,h5,fun _=>h6,fun h=>absurd h (by omega)⟩ _ stp
  ·exact NO (fun h=>h6 (h.2.2.1 (by omega))) _ stp
 refine ite (fun h3=>?_) (fun h3=>NO (fun h=>by have:=h.1;omega) _ stp)
 refine rld (B:=Bq) rfl ?_
 refine ite (fun h4=>?_) (fun h4=>?_)
 case' refine_2 =>
  have hno:¬QyIs q n:=fun h=>by have:=(h.2.2.2 h3).1;omega
  refine rld (B:=Bq) rfl ?_
  refine rcall (zAl (Bn.mv (w:=_))) ?_
  rintro _ _ ⟨⟨rfl,h5⟩|⟨rfl,h5⟩,rfl⟩
  ·exact NO hno _ stp
  ·exact NO hno _ stp
 refine rld (B:=Bq) rfl ?_
 refine ite (fun h5=>?_) (fun h5=>?_)
 case' refine_2 =>
  have hno:¬QyIs q n:=fun h=>by have:=(h.2.2.2 h3).1;omega
  refine rld (B:=Bq) rfl ?_
  refine rcall (zAl (Bn.mv (w:=_))) ?_
  rintro _ _ ⟨⟨rfl,h5⟩|⟨rfl,h5⟩,rfl⟩
  ·exact NO hno _ stp
  ·exact NO hno _ stp
 refine rld (B:=Bq) rfl ?_
 refine rcall (zBo (g:=F.yq) (first:=[]) (cap:=[]) (p:=fun s=>¬WordB s) (kw.up (w':=w2)) hl (fun r u1 hr _=>zGN (hs r hr))) ?_
 rintro _ w3 ⟨⟨rfl,h6⟩|⟨rfl,h6⟩,e3⟩
 ·have hno:¬QyIs q n:=fun h=>by
   obtain⟨y,hy,h7⟩:=h6
   exact h7 ((h.2.2.2 h3).2.2.2 y hy)
  refine rld (B:=Bq) rfl ?_
  refine rcall (zAl (Bn.mv (w:=_))) ?_
  rintro _ _ ⟨⟨rfl,h5⟩|⟨rfl,h5⟩,rfl⟩
  ·exact NO hno _ stp
  ·exact NO hno _ stp
 have hwd:∀s∈q.words,WordB s:=fun s h=>Classical.byContradiction fun hn=>h6 ⟨s,h,hn⟩
 refine rld (B:=Bq) rfl ?_
 refine rcall (zAl (Bn.mv (w:=w3))) ?_
 rintro _ _ ⟨⟨rfl,h7⟩|⟨rfl,h7⟩,rfl⟩
 case' inr=>exact NO (fun h=>h7 h.2.1) _ stp
 refine rld (B:=Bq) rfl ?_
 refine ite (fun h8=>?_) (fun h8=>NO (fun h=>h8 (h.2.2.2 h3).2.1.1) _ stp)
 refine rld (B:=Bq) rfl ?_
 refine ite (fun h9=>?_) (fun h9=>NO (fun h=>h9 (h.2.2.2 h3).2.1.2) _ stp)
 refine rld (B:=Bq) rfl ?_
 refine ite (fun h10=>?_) (fun h10=>NO (fun h=>h10 (h.2.2.2 h3).2.2.1.1) _ stp)
 refine rld (B:=Bq) rfl ?_
 refine ite (fun h11=>?_) (fun h11=>NO (fun h=>h11 (h.2.2.2 h3).2.2.1.2) _ stp)
 exact YES ⟨.inr (.inr h3),h7,fun h=>absurd h (by omega),fun _=>⟨by omega,⟨h8,h9⟩,⟨h10,h11⟩,hwd⟩⟩ _ stp
abbrev FrB (w:World) (b:Nat) (s:List UInt8) (A:Nat):Prop:=Bk w b [txt s,.int .i64 (A:Int)] E.qs
theorem zBA{A b:Nat}(B:FrB w b s A)(hs:s.length≤4611686018427387904):
  SpP PP F.ql #[.pointer (some ⟨b,0,none⟩)] w (fun v w'=>∃n A':Nat,RdsV rdN s A n A'∧v=.int .i64 (n:Int)∧FrB w' b s A'∧Fr (fun i=>i=b) w w')
   (fun c w'=>c=PanF∧rdN (s.drop A)=none∧Fr (fun i=>i=b) w w'):=
 (zAR B hs).mono (fun v w' ⟨n,h1,h2,h3,h4⟩=>⟨n,_,rdn_of h1,h2,h3,h4⟩) (fun c w' ⟨h1,h2,h3⟩=>⟨h1,rdn_no h2,h3⟩)
theorem zGA{A b:Nat}(B:FrB w b s A)(hs:s.length≤4611686018427387904):
  SpP PP F.qs #[.pointer (some ⟨b,0,none⟩),.int .i64 (m:Int)] w (fun v w'=>∃n A':Nat,RdsV rdN s A n A'∧n≤m∧v=.int .i64 (n:Int)∧FrB w' b s A'∧Fr (fun i=>i=b) w w')
   (fun c w'=>c=PanF∧(∀n t,rdN (s.drop A)=some (n,t)→¬n≤m)∧Fr (fun i=>i=b) w w'):=by
 refine enP TBok rfl ?_
 refine rcallP (zBA B hs) ?_ ?_
 ·rintro _ u1 ⟨n,A',hr,rfl,B1,f1⟩
  refine ite (fun h=>?_) (fun h=>?_)
  ·refine rcallP zAb ?_ ?_
   ·rintro _ u2 ⟨_,rfl,rfl⟩
    exact⟨n,A',hr,by omega,rfl,B1,f1⟩
   ·rintro _ u3 ⟨h,_⟩;cases h
  ·refine rcallP zAb ?_ ?_
   ·rintro _ u3 ⟨h,_⟩;cases h
   ·rintro _ u2 ⟨_,rfl,rfl⟩
    refine⟨rfl,fun k t hk=>?_,f1⟩
    rw [hr.2] at hk;cases hk
    omega
 ·rintro _ u1 ⟨rfl,hno,f1⟩
  exact⟨rfl,(fun n t hr=>by rw [hno] at hr;cases hr),f1⟩
theorem zGB{A b:Nat}(B:FrB w b s A)(hs:s.length≤4611686018427387904):
  SpP PP F.z6 #[.pointer (some ⟨b,0,none⟩)] w (fun v w'=>∃x A',RdsV rdT s A x A'∧v=txt x∧FrB w' b s A'∧Fr (fun i=>i=b) w w')
   (fun c w'=>c=PanF∧rdT (s.drop A)=none∧Fr (fun i=>i=b) w w'):=by
 refine enP TBok rfl ?_
 refine drawR TBok mixed (fun _=>False) (upF 16 0) (by kernel_rfl) fun u1 e1 _=>?_
 refine tld (B:=B) rfl not_false ?_
 refine tld (B:=B) rfl not_false ?_
 refine rcall (zCU (A:=A) hs) ?_
 rintro v u2 ⟨⟨x,A',hr,rfl⟩|⟨hno,rfl⟩,e2⟩
 ·refine⟨e2.e,?_⟩
  refine rcallP zAb ?_ ?_
  ·rintro _ u3 ⟨_,rfl,rfl⟩
   have B2:=B.mv (w:=u3)
   refine rsto (B:=B2) (vs:=[.int .i64 _]) rfl rfl rfl (int_o _) fun u4 B4 f4 _=>?_
   exact⟨x,A',hr,rfl,B4,(Fr.fr (Le.e (a:=w) (b:=u3))).trans f4⟩
  ·rintro _ u3 ⟨h,_⟩;cases h
 ·refine⟨e2.e,?_⟩
  refine rcallP zAb ?_ ?_
  ·rintro _ u3 ⟨h,_⟩;cases h
  ·rintro _ u3 ⟨_,rfl,rfl⟩
   exact⟨rfl,hno,Fr.fr (Le.e (a:=w) (b:=u3))⟩
theorem panR'{rs:List ResultVar}{F:Nat→Value}{c:List PanicEntry}{R:Value→World→Prop}{pn:List PanicEntry→World→Prop}{d:Value}(h0:F 4294967296=d)(hd:decD d=[])(h:pn c w):panS P rs R pn F c w:=by
 unfold panS
 rw [h0,hd];exact h
theorem zNP{r:List UInt8}(h:rdN r=none):rdQ k r=none:=by unfold rdQ;rw [h]
theorem rdQ_2{a:Nat}{r r1:List UInt8}(h:rdN r=some (a,r1))(hk:k≤2):rdQ k r=match rdN r1 with
  |none=>none
  |some (b,r2)=>some (⟨k,a,b,[],0,0⟩,r2):=by unfold rdQ;rw [h];simp only;rw [if_pos hk];rfl
theorem rdQ_3{a:Nat}{r r1:List UInt8}(h:rdN r=some (a,r1))(hk:¬k≤2):rdQ k r=match rdWs r1 with
  |none=>none
  |some (ws,r2)=>match rdN r2 with
   |none=>none
   |some (x,r3)=>match rdN r3 with
    |none=>none
    |some (y,r4)=>some (⟨k,a,0,ws.map bsOf,x,y⟩,r4):=by unfold rdQ;rw [h];simp only;rw [if_neg hk];rfl
def QyO (B:Nat) (w:World) (x:RQ) (q:QyD):Prop:=x.kind=q.kind∧x.frm=q.frm∧x.to=q.to∧Own B E.qf w x.words.v q.words∧x.rad=q.rad∧x.most=q.most
abbrev QrT (s:List UInt8) (A b kind:Nat) (w:World) (v:Value) (w':World):Prop:=∃q A' x,RdsV (rdQ kind) s A q A'∧v=agg x∧QyO w.heap.size w' x q∧FrB w' b s A'∧Fr (fun i=>i=b) w w'
set_option maxHeartbeats 1000000 in
theorem zJT{A b kind:Nat}(B:FrB w b s A)(hs:s.length≤4611686018427387904):
  SpP PP F.zv #[.pointer (some ⟨b,0,none⟩),.int .i64 (kind:Int)] w (fun v w'=>QrT s A b kind w v w')
   (fun c w'=>c=PanF∧rdQ kind (s.drop A)=none∧Fr (fun i=>i=b) w w'):=by
 have hbl:=B.lt
 refine enP TBok rfl ?_
 refine ral fun br w1 n1 R1=>?_
 have hb1:=n1.b;have hs1:=n1.s
 refine rcallP (zBA (B.mv (w:=w1)) hs) ?_ ?_
 case' refine_2 =>
  rintro _ w2 ⟨rfl,hno,f2⟩
  exact⟨rfl,zNP hno,(Fr.fr n1.e).trans f2⟩
 rintro _ w2 ⟨a,A2,hr2,rfl,B2,f2⟩
 have R2:=R1.fr f2 (by omega)
 have z2:=f2.size
 refine rbuild (cs:=[.int .i64 (kind:Int),.int .i64 (a:Int),.int .i64 0,.slice none 0 0,.int .i64 0,.int .i64 0]) rfl ?_
 refine ral fun bq w3 n3 Q3=>?_
 have hb3:=n3.b;have hs3:=n3.s
 refine rsto (B:=Q3) (vs:=[.int .i64 (kind:Int),.int .i64 (a:Int),.int .i64 0,.slice none 0 0,.int .i64 0,.int .i64 0]) rfl rfl rfl (by intro u hu;simp at hu;rcases hu with rfl|rfl|rfl|rfl|rfl|rfl <;> rfl) fun w4 Q4 f4 _=>?_
 have Q4:Bk w4 bq [.int .i64 (kind:Int),.int .i64 (a:Int),.int .i64 0,.slice none 0 0,.int .i64 0,.int .i64 0] E.qr:=Q4
 have lq:=Q4.lt
 have z34:=f4.size
 have hne1:¬br=bq:=by omega
 have hne2:¬b=bq:=by omega
 have R4:=(R2.mv (w:=w3)).fr f4 hne1
 have B4:FrB w4 b s A2:=(B2.mv (w:=w3)).fr f4 hne2
 have F4:Fr (fun i=>i=b) w w4:=Fr.st' ((((Fr.fr n1.e).trans f2).trans (Fr.fr n3.e))) f4 fun i hi=>by omega
 have hlr:=R1.lt
 refine ite (fun h1=>?_) (fun h1=>?_)
 ·have hk2:kind≤2:=by omega
  have e2:=rdQ_2 hr2.2 hk2
  refine rcallP (zBA B4 hs) ?_ ?_
  case' refine_2 =>
   rintro _ w5 ⟨rfl,hno,f5⟩
   exact⟨rfl,by rw [e2,hno],F4.trans f5⟩
  rintro _ w5 ⟨c5,A5,hr5,rfl,B5,f5⟩
  refine rsto (B:=Q4.fr f5 (by omega)) (vs:=[.int .i64 (c5:Int)]) rfl rfl rfl (int_o _) fun w6 Q6 f6 _=>?_
  have Q6:Bk w6 bq [.int .i64 (kind:Int),.int .i64 (a:Int),.int .i64 (c5:Int),.slice none 0 0,.int .i64 0,.int .i64 0] E.qr:=Q6
  refine rldG (ds:=[.int .i64 (kind:Int),.int .i64 (a:Int),.int .i64 (c5:Int),.slice none 0 0,.int .i64 0,.int .i64 0]) (B:=Q6) rfl rfl ?_
  have R6:=(R4.fr f5 (by omega)).fr f6 hne1
  refine rsto (B:=R6) (vs:=[.int .i64 (kind:Int),.int .i64 (a:Int),.int .i64 (c5:Int),.slice none 0 0,.int .i64 0,.int .i64 0]) rfl rfl rfl (by intro u hu;simp at hu;rcases hu with rfl|rfl|rfl|rfl|rfl|rfl <;> rfl) fun w7 R7 f7 _=>?_
  have R7:Bk w7 br [.int .i64 (kind:Int),.int .i64 (a:Int),.int .i64 (c5:Int),.slice none 0 0,.int .i64 0,.int .i64 0] E.qr:=R7
  have B7:FrB w7 b s A5:=(B5.fr f6 hne2).fr f7 (by omega)
  have F7:Fr (fun i=>i=b) w w7:=Fr.st' (Fr.st' (F4.trans f5) f6 fun i hi=>by omega) f7 fun i hi=>by omega
  refine rresG (B:=R7) rfl ?_
  exact⟨⟨kind,a,c5,[],0,0⟩,A5,⟨kind,a,c5,⟨none,0,0⟩,0,0⟩,⟨hr5.1,by rw [e2,hr5.2]⟩,rfl,⟨rfl,rfl,rfl,Own.nil _ _ _,rfl,rfl⟩,B7,F7⟩
 ·have hk2:¬kind≤2:=by omega
  have e3:=rdQ_3 hr2.2 hk2
  refine rcallP (zGA (m:=8) B4 hs) ?_ ?_
  case' refine_2 =>
   rintro _ w5 ⟨rfl,hno,f5⟩
   refine⟨rfl,?_,F4.trans f5⟩
   have:rdWs (s.drop A2)=none:=by
    unfold rdWs
    cases h:rdN (s.drop A2) with
    |none=>rfl
    |some p=>obtain⟨n,t⟩:=p;simp only;rw [if_neg (hno n t h)]
   rw [e3,this]
  rintro _ w5 ⟨N,A5,hr5,hN,rfl,B5,f5⟩
  have ew:rdWs (s.drop A2)=rdMany rdT N (s.drop A5):=by unfold rdWs;rw [hr5.2];simp only;rw [if_pos hN]
  have hwb:=B.lt
  have Q5:=Q4.fr f5 (by omega)
  have R5:Bk w5 br (Value.cells (.agg #[.int .i64 0,.int .i64 0,.int .i64 0,.slice none 0 0,.int .i64 0,.int .i64 0])).toList E.qr:=R4.fr f5 (by omega)
  have z5:=f5.size
  have h5:A5≤s.length:=hr5.1
  refine cnt TBok 18 [] 18 N (fun k u=>∃(Ak:Nat) (ws:List (List UInt8)) (wa:Option Addr) (wc:Nat),ws.length=k∧preR ws (rdMany rdT (N - k) (s.drop Ak))=rdMany rdT N (s.drop A5)∧Ak≤s.length∧FrB u b s Ak∧Bk u bq [.int .i64 (kind:Int),.int .i64 (a:Int),.int .i64 0,.slice wa (ws.map bsOf).length wc,.int .i64 0,.int .i64 0] E.qr∧Own w5.heap.size E.qf u (.slice wa (ws.map bsOf).length wc) (ws.map bsOf)∧Bk u br (Value.cells (.agg #[.int .i64 0,.int .i64 0,.int .i64 0,.slice none 0 0,.int .i64 0,.int .i64 0])).toList E.qr∧Fr (fun i=>i=b) w u∧w5.heap.size≤u.heap.size) rfl rfl
   ⟨A5,[],none,0,rfl,by rw [zD9];simp,h5,B5,by simpa using Q5,by simpa using Own.nil _ _ _,R5,F4.trans f5,Nat.le_refl _⟩ ?_
  rintro k G u hk ⟨Ak,ws,wa,wc,hwl,hpre,hAk,Bu,Qu,Ou,Ru,Fu,zu⟩
  refine ite (fun hlt=>?_) (fun hge=>?_)
  ·have hkN:k<N:=by omega
   have e0:N - k=(N - (k+1))+1:=by omega
   rw [e0] at hpre
   have lqu:=Qu.lt
   refine drawRT TBok mixed (fun _=>True) (.one 0 (.one 2 (.duo 1 (.one 3 (.one 4 (.one 5 (.one 6 (.one 7 .nil))))) 3 (.duo 1 (.one 4 (.one 5 (.one 6 (.one 7 .nil)))) 4 (.lone 1 (.one 5 (.one 6 (.one 7 .nil)))))))) (by kernel_rfl) fun u1 e1 _=>?_
   have BX:FrB u1 b s Ak:=Bk.mv (w:=u1) Bu
   have EX:=e1.e
   refine⟨?_,?_⟩
   ·refine rld (B:=Qu) rfl ⟨Fr.refl _ _,?_⟩
    refine rcallP (zGB (A:=Ak) BX hs) ?_ ?_
    case' refine_2 =>
     rintro _ u2 ⟨rfl,hno,f6⟩
     have ewn:rdWs (s.drop A2)=none:=by
      rw [ew,←hpre,zB8 hno];rfl
     have hfin:PanF=PanF∧rdQ kind (s.drop A)=none∧Fr (fun i=>i=b) w u2:=⟨rfl,by rw [e3,ewn],(Fu.trans (Fr.fr EX)).trans f6⟩
     intro F' ag
     show panS PP _ _ (fun c w'=>c=PanF∧rdQ kind (s.drop A)=none∧Fr (fun i=>i=b) w w') F' PanF u2
     exact panR' (ag 4294967296 rfl) rfl hfin
    rintro _ u2 ⟨x,A',hr,rfl,B6,f6⟩
    refine⟨Fr.mono f6 fun _ _ _=>trivial,?_⟩
    have Q6:=(Bk.mv (w:=u1) Qu).fr f6 (by omega)
    have R6:=(Bk.mv (w:=u1) Ru).fr f6 (by omega)
    have O6:=(Own.up (w':=u1) Ou).frc f6 BX (by decide)
    have z6:=f6.size
    have z1:=Le.size (a:=u) (b:=u1)
    refine rbs1 (bsOf x) rfl rfl (by decide) fun b7 u3 n3' _ S7=>⟨Fr.fr n3'.e,?_⟩
    have Q7:=Q6.mv (w:=u3)
    have z7:=Le.size (a:=u2) (b:=u3)
    refine rappB ⟨rfl,rfl⟩ (O6.up (w':=u3)) S7 (by omega) (by simp;omega) fun v8 u8 O8 f8=>⟨Fr.mono f8 fun _ _ _=>trivial,?_⟩
    have Q8:=Q7.fro (O6.up (w':=u3)) f8 (by decide)
    have R8:=(R6.mv (w:=u3)).fro (O6.up (w':=u3)) f8 (by decide)
    have B8:FrB u8 b s A':=(Bk.mv (w:=u3) B6).fro (O6.up (w':=u3)) f8 (by decide)
    have z8:=f8.size
    have em:(ws.map bsOf)++[bsOf x]=(ws++[x]).map bsOf:=by rw [List.map_append];rfl
    rw [em] at O8
    have q8:=O8.shape
    obtain⟨a8,c8,rfl⟩:=q8
    refine rsto (B:=Q8) (vs:=[.slice a8 ((ws++[x]).map bsOf).length c8]) rfl rfl rfl (by intro u hu;simp at hu;subst hu;rfl) fun u9 Q9 f9 _=>⟨Fr.mono f9 fun _ _ _=>trivial,?_⟩
    have B9:FrB u9 b s A':=B8.fr f9 (by omega)
    have F9:Fr (fun i=>i=b) w u9:=Fr.st' (Fr.st' (((Fu.trans (Fr.fr EX)).trans f6).trans (Fr.fr n3'.e)) f8 fun i hi=>by have:=hi.1;omega) f9 fun i hi=>by omega
    have hp9:preR (ws++[x]) (rdMany rdT (N - (k+1)) (s.drop A'))=rdMany rdT N (s.drop A5):=by rw [←hpre];exact(zAQ hr.2 ws).symm
    exact rar (by omega) ⟨rfl,hkN,A',ws++[x],a8,c8,by simp [hwl],hp9,hr.1,B9,Q9,O8.frc f9 Q8 (by decide),R8.fr f9 (by omega),F9,by omega⟩
   ·refine rcallP (zGB (A:=Ak) BX hs) ?_ ?_
    case' refine_2 =>
     rintro _ u2 ⟨rfl,hno,f6⟩
     have ewn:rdWs (s.drop A2)=none:=by
      rw [ew,←hpre,zB8 hno];rfl
     have hfin:PanF=PanF∧rdQ kind (s.drop A)=none∧Fr (fun i=>i=b) w u2:=⟨rfl,by rw [e3,ewn],(Fu.trans (Fr.fr EX)).trans f6⟩
     intro F' ag
     show panS PP _ _ (fun c w'=>c=PanF∧rdQ kind (s.drop A)=none∧Fr (fun i=>i=b) w w') F' PanF u2
     exact panR' (ag 4294967296 rfl) rfl hfin
    rintro _ u2 ⟨x,A',hr,rfl,B6,f6⟩
    refine⟨Fr.mono f6 fun _ _ _=>trivial,?_⟩
    have Q6:=(Bk.mv (w:=u1) Qu).fr f6 (by omega)
    have R6:=(Bk.mv (w:=u1) Ru).fr f6 (by omega)
    have O6:=(Own.up (w':=u1) Ou).frc f6 BX (by decide)
    have z6:=f6.size
    have z1:=Le.size (a:=u) (b:=u1)
    refine⟨?_,?_⟩
    ·refine rld (B:=Q6) rfl ⟨Fr.refl _ _,?_⟩
     refine rbs1 (bsOf x) rfl rfl (by decide) fun b7 u3 n3' _ S7=>⟨Fr.fr n3'.e,?_⟩
     have Q7:=Q6.mv (w:=u3)
     have z7:=Le.size (a:=u2) (b:=u3)
     refine rappB ⟨rfl,rfl⟩ (O6.up (w':=u3)) S7 (by omega) (by simp;omega) fun v8 u8 O8 f8=>⟨Fr.mono f8 fun _ _ _=>trivial,?_⟩
     have Q8:=Q7.fro (O6.up (w':=u3)) f8 (by decide)
     have R8:=(R6.mv (w:=u3)).fro (O6.up (w':=u3)) f8 (by decide)
     have B8:FrB u8 b s A':=(Bk.mv (w:=u3) B6).fro (O6.up (w':=u3)) f8 (by decide)
     have z8:=f8.size
     have em:(ws.map bsOf)++[bsOf x]=(ws++[x]).map bsOf:=by rw [List.map_append];rfl
     rw [em] at O8
     have q8:=O8.shape
     obtain⟨a8,c8,rfl⟩:=q8
     refine rsto (B:=Q8) (vs:=[.slice a8 ((ws++[x]).map bsOf).length c8]) rfl rfl rfl (by intro u hu;simp at hu;subst hu;rfl) fun u9 Q9 f9 _=>⟨Fr.mono f9 fun _ _ _=>trivial,?_⟩
     have B9:FrB u9 b s A':=B8.fr f9 (by omega)
     have F9:Fr (fun i=>i=b) w u9:=Fr.st' (Fr.st' (((Fu.trans (Fr.fr EX)).trans f6).trans (Fr.fr n3'.e)) f8 fun i hi=>by have:=hi.1;omega) f9 fun i hi=>by omega
     have hp9:preR (ws++[x]) (rdMany rdT (N - (k+1)) (s.drop A'))=rdMany rdT N (s.drop A5):=by rw [←hpre];exact(zAQ hr.2 ws).symm
     exact rar (by omega) ⟨rfl,hkN,A',ws++[x],a8,c8,by simp [hwl],hp9,hr.1,B9,Q9,O8.frc f9 Q8 (by decide),R8.fr f9 (by omega),F9,by omega⟩
    ·refine rbs1 (bsOf x) rfl rfl (by decide) fun b7 u3 n3' _ S7=>⟨Fr.fr n3'.e,?_⟩
     refine rld (B:=Q6) rfl ⟨Fr.refl _ _,?_⟩
     have Q7:=Q6.mv (w:=u3)
     have z7:=Le.size (a:=u2) (b:=u3)
     refine rappB ⟨rfl,rfl⟩ (O6.up (w':=u3)) S7 (by omega) (by simp;omega) fun v8 u8 O8 f8=>⟨Fr.mono f8 fun _ _ _=>trivial,?_⟩
     have Q8:=Q7.fro (O6.up (w':=u3)) f8 (by decide)
     have R8:=(R6.mv (w:=u3)).fro (O6.up (w':=u3)) f8 (by decide)
     have B8:FrB u8 b s A':=(Bk.mv (w:=u3) B6).fro (O6.up (w':=u3)) f8 (by decide)
     have z8:=f8.size
     have em:(ws.map bsOf)++[bsOf x]=(ws++[x]).map bsOf:=by rw [List.map_append];rfl
     rw [em] at O8
     have q8:=O8.shape
     obtain⟨a8,c8,rfl⟩:=q8
     refine rsto (B:=Q8) (vs:=[.slice a8 ((ws++[x]).map bsOf).length c8]) rfl rfl rfl (by intro u hu;simp at hu;subst hu;rfl) fun u9 Q9 f9 _=>⟨Fr.mono f9 fun _ _ _=>trivial,?_⟩
     have B9:FrB u9 b s A':=B8.fr f9 (by omega)
     have F9:Fr (fun i=>i=b) w u9:=Fr.st' (Fr.st' (((Fu.trans (Fr.fr EX)).trans f6).trans (Fr.fr n3'.e)) f8 fun i hi=>by have:=hi.1;omega) f9 fun i hi=>by omega
     have hp9:preR (ws++[x]) (rdMany rdT (N - (k+1)) (s.drop A'))=rdMany rdT N (s.drop A5):=by rw [←hpre];exact(zAQ hr.2 ws).symm
     exact rar (by omega) ⟨rfl,hkN,A',ws++[x],a8,c8,by simp [hwl],hp9,hr.1,B9,Q9,O8.frc f9 Q8 (by decide),R8.fr f9 (by omega),F9,by omega⟩
  ·have q_:k=N:=by omega
   obtain rfl:=q_
   rw [Nat.sub_self] at hpre
   have hws:rdWs (s.drop A2)=some (ws,s.drop Ak):=by rw [ew,←hpre];simp [rdMany,preR]
   have lqu:=Qu.lt
   have lru:=Ru.lt
   refine rcallP (zBA Bu hs) ?_ ?_
   case' refine_2 =>
    rintro _ u2 ⟨rfl,hno,f6⟩
    have hfin:PanF=PanF∧rdQ kind (s.drop A)=none∧Fr (fun i=>i=b) w u2:=⟨rfl,by rw [e3,hws];simp only;rw [hno],Fu.trans f6⟩
    exact hfin
   rintro _ u2 ⟨x,A6,hr6,rfl,B6,f6⟩
   have Q6:=Qu.fr f6 (by omega)
   have R6:=Ru.fr f6 (by omega)
   have O6:=Ou.frc f6 Bu (by decide)
   refine rsto (B:=Q6) (vs:=[.int .i64 (x:Int)]) rfl rfl rfl (int_o _) fun u3 Q7 f7 _=>?_
   have Q7:Bk u3 bq [.int .i64 (kind:Int),.int .i64 (a:Int),.int .i64 0,.slice wa (ws.map bsOf).length wc,.int .i64 (x:Int),.int .i64 0] E.qr:=Q7
   have B7:FrB u3 b s A6:=B6.fr f7 hne2
   have R7:=R6.fr f7 hne1
   have O7:=O6.frc f7 Q6 (by decide)
   have F7:Fr (fun i=>i=b) w u3:=Fr.st' (Fu.trans f6) f7 fun i hi=>by omega
   refine rcallP (zBA B7 hs) ?_ ?_
   case' refine_2 =>
    rintro _ u4 ⟨rfl,hno,f8⟩
    have hfin:PanF=PanF∧rdQ kind (s.drop A)=none∧Fr (fun i=>i=b) w u4:=⟨rfl,by rw [e3,hws];simp only;rw [hr6.2];simp only;rw [hno],F7.trans f8⟩
    exact hfin
   rintro _ u4 ⟨y,A8,hr8,rfl,B8,f8⟩
   have Q8:=Q7.fr f8 (by omega)
   have R8:=R7.fr f8 (by omega)
   have O8:=O7.frc f8 B7 (by decide)
   refine rsto (B:=Q8) (vs:=[.int .i64 (y:Int)]) rfl rfl rfl (int_o _) fun u5 Q9 f9 _=>?_
   have Q9:Bk u5 bq [.int .i64 (kind:Int),.int .i64 (a:Int),.int .i64 0,.slice wa (ws.map bsOf).length wc,.int .i64 (x:Int),.int .i64 (y:Int)] E.qr:=Q9
   have B9:FrB u5 b s A8:=B8.fr f9 hne2
   have R9:=R8.fr f9 hne1
   have O9:=O8.frc f9 Q8 (by decide)
   refine rldG (ds:=enc (⟨kind,a,0,⟨wa,(ws.map bsOf).length,wc⟩,x,y⟩:RQ)) (B:=Q9) rfl rfl ?_
   refine rsto (B:=R9) (vs:=enc (⟨kind,a,0,⟨wa,(ws.map bsOf).length,wc⟩,x,y⟩:RQ)) rfl rfl rfl (Enc.one _) fun u6 R10 f10 _=>?_
   have R10:Bk u6 br (enc (⟨kind,a,0,⟨wa,(ws.map bsOf).length,wc⟩,x,y⟩:RQ)) E.qr:=R10
   have B10:FrB u6 b s A8:=B9.fr f10 (by omega)
   have O10:=O9.frc f10 R9 (by decide)
   have F10:Fr (fun i=>i=b) w u6:=Fr.st' (Fr.st' (F7.trans f8) f9 fun i hi=>by omega) f10 fun i hi=>by omega
   refine rresG (B:=R10) rfl ?_
   have hfin:QrT s A b kind w (agg (⟨kind,a,0,⟨wa,(ws.map bsOf).length,wc⟩,x,y⟩:RQ)) u6:=⟨⟨kind,a,0,ws.map bsOf,x,y⟩,A8,⟨kind,a,0,⟨wa,(ws.map bsOf).length,wc⟩,x,y⟩,⟨hr8.1,by rw [e3,hws];simp only;rw [hr6.2];simp only;rw [hr8.2]⟩,rfl,⟨rfl,rfl,rfl,O10.mono (by omega),rfl,rfl⟩,B10,F10⟩
   exact hfin
structure RqV (w:World) (x:RReq) (d:RqD):Prop where
 id:x.id=d.id
 kind:x.kind=d.kind
 q:QyV w x.q d.q
def RqZ (x:RqD):Prop:=if x.kind=4 then x.q=zQy else if x.kind=3 then x.q.to=0 else x.q.words=[]∧x.q.rad=0∧x.q.most=0
theorem zEr{x:RReq}{d:RqD}(V:RqV w x d):Sp PP F.ck #[agg x] w fun v w'=>Tells (RqZ d) v∧Stp w w':=by
 obtain⟨h1,h2,⟨k1,k2,k3,kw,k4,k5⟩⟩:=V
 obtain⟨xi,xk,⟨x1,x2,x3,⟨wa,wn,wc⟩,x4,x5⟩⟩:=x
 obtain⟨di,dk,⟨d1,d2,d3,dw,d4,d5⟩⟩:=d
 simp only at h1 h2 k1 k2 k3 k4 k5
 subst h1 h2 k1 k2 k3 k4 k5
 have hwn:wn=dw.length:=kw.len
 subst hwn
 have hagg:agg (⟨xi,xk,⟨x1,x2,x3,⟨wa,dw.length,wc⟩,x4,x5⟩⟩:RReq)=.agg #[.int .i64 xi,.int .i64 xk,.int .i64 x1,.int .i64 x2,.int .i64 x3,.slice wa dw.length wc,.int .i64 x4,.int .i64 x5]:=rfl
 rw [hagg]
 have hw0:dw.length=0↔dw=[]:=List.length_eq_zero_iff
 refine en TBok rfl ?_
 refine rbx fun b w1 n1 B1=>?_
 refine rldG (ds:=[.int .i64 x1,.int .i64 x2,.int .i64 x3,.slice wa dw.length wc,.int .i64 x4,.int .i64 x5]) (B:=B1) rfl rfl ?_
 refine ral fun b2 w2 n2 Z2=>?_
 have hb1:=n1.b;have hs1:=n1.s;have hb2:=n2.b;have hs2:=n2.s
 refine rsto (B:=Z2) (vs:=[.int .i64 x1,.int .i64 x2,.int .i64 x3,.slice wa dw.length wc,.int .i64 x4,.int .i64 x5]) rfl rfl rfl (by intro u hu;simp at hu;rcases hu with rfl|rfl|rfl|rfl|rfl|rfl <;> rfl) fun w3 B3 f3 _=>?_
 have B3:Bk w3 b2 [.int .i64 x1,.int .i64 x2,.int .i64 x3,.slice wa dw.length wc,.int .i64 x4,.int .i64 x5] E.qr:=B3
 have s3:Stp w w3:=⟨Fr.st (Le.e (a:=w) (b:=w2)) f3 fun i hi=>by omega⟩
 have B1:=(B1.mv (w:=w2)).fr f3 (by omega)
 clear Z2 f3
 refine rld (B:=B1) rfl ?_
 refine ite (fun h4=>?_) (fun h4=>?_)
 ·have hz:RqZ ⟨xi,xk,⟨x1,x2,x3,dw,x4,x5⟩⟩↔(x1=0∧x2=0∧x3=0∧dw=[]∧x4=0∧x5=0):=by
   unfold RqZ zQy;simp only;rw [if_pos h4];simp only [QyD.mk.injEq]
  refine rld (B:=B3) rfl ?_
  refine ite (fun h5=>?_) (fun h5=>⟨.f fun m=>h5 (hz.1 m).1,stp⟩)
  refine rld (B:=B3) rfl ?_
  refine ite (fun h6=>?_) (fun h6=>⟨.f fun m=>h6 (hz.1 m).2.1,stp⟩)
  refine rld (B:=B3) rfl ?_
  refine ite (fun h7=>?_) (fun h7=>⟨.f fun m=>h7 (hz.1 m).2.2.1,stp⟩)
  refine rld (B:=B3) rfl ?_
  refine ite (fun h8=>?_) (fun h8=>⟨.f fun m=>h8 (by rw [(hz.1 m).2.2.2.1];rfl),stp⟩)
  refine rld (B:=B3) rfl ?_
  refine ite (fun h9=>?_) (fun h9=>⟨.f fun m=>h9 (hz.1 m).2.2.2.2.1,stp⟩)
  refine rld (B:=B3) rfl ?_
  refine ite (fun h10=>?_) (fun h10=>⟨.f fun m=>h10 (hz.1 m).2.2.2.2.2,stp⟩)
  exact⟨.t (hz.2 ⟨h5,h6,h7,hw0.1 (by omega),h9,h10⟩),stp⟩
 refine ite (fun h5=>?_) (fun h5=>?_)
 ·have hz:RqZ ⟨xi,xk,⟨x1,x2,x3,dw,x4,x5⟩⟩↔x3=0:=by unfold RqZ;simp only;rw [if_neg h4,if_pos h5]
  refine rld (B:=B3) rfl ?_
  exact ite (fun h6=>⟨.t (hz.2 h6),stp⟩) (fun h6=>⟨.f fun m=>h6 (hz.1 m),stp⟩)
 have hz:RqZ ⟨xi,xk,⟨x1,x2,x3,dw,x4,x5⟩⟩↔(dw=[]∧x4=0∧x5=0):=by unfold RqZ;simp only;rw [if_neg h4,if_neg h5]
 refine rld (B:=B3) rfl ?_
 refine ite (fun h8=>?_) (fun h8=>⟨.f fun m=>h8 (by rw [(hz.1 m).1];rfl),stp⟩)
 refine rld (B:=B3) rfl ?_
 refine ite (fun h9=>?_) (fun h9=>⟨.f fun m=>h9 (hz.1 m).2.1,stp⟩)
 refine rld (B:=B3) rfl ?_
 refine ite (fun h10=>?_) (fun h10=>⟨.f fun m=>h10 (hz.1 m).2.2,stp⟩)
 exact⟨.t (hz.2 ⟨hw0.1 (by omega),h9,h10⟩),stp⟩
theorem zET{x:RReq}{d:RqD}(V:RqV w x d)(hl:d.q.words.length≤1000000)(hs:∀s∈d.q.words,s.size≤1000000):Sp PP F.c6 #[agg x] w fun v w'=>Tells (RqIs d) v∧Stp w w':=by
 obtain⟨h1,h2,hq⟩:=V
 refine en TBok rfl ?_
 refine rbx fun b w1 n1 B1=>?_
 refine rld (B:=B1) rfl ?_
 refine ite (fun h4=>?_) (fun h4=>?_)
 ·have hok:d.kind=4∨d.q.kind=d.kind∧QyIs d.q 200:=.inl (by rw [←h2];exact h4)
  have q_:∃u,u=w1:=⟨_,rfl⟩
  obtain⟨u,hu⟩:=q_
  subst hu
  refine rld (B:=B1) rfl ?_
  refine ite (fun h6=>?_) (fun h6=>⟨.f fun m=>h6 (by rw [h1];exact m.2.1.1),stp⟩)
  refine rld (B:=B1) rfl ?_
  refine ite (fun h7=>?_) (fun h7=>⟨.f fun m=>h7 (by rw [h1];exact m.2.1.2),stp⟩)
  refine rldG (ds:=enc x) (B:=B1) rfl (Enc.len x) ?_
  refine rcall (zEr (d:=d) ⟨h1,h2,hq.up (w':=u)⟩) ?_
  rintro v w9 ⟨hz,e9⟩
  refine⟨?_,stp⟩
  rcases hz with ⟨rfl,hz⟩|⟨rfl,hz⟩
  ·exact .t ⟨hok,⟨by rw [←h1];exact h6,by rw [←h1];exact h7⟩,hz⟩
  ·exact .f fun m=>hz m.2.2
 refine rld (B:=B1) rfl (rld (B:=B1) rfl ?_)
 refine ite (fun h5=>?_) (fun h5=>?_)
 ·refine rldG (ds:=enc x.q) (B:=B1) rfl (Enc.len x.q) ?_
  refine rcall (zEv (n:=200) (hq.up (w':=w1)) hl hs) ?_
  rintro _ u ⟨⟨hy,rfl⟩|⟨hy,rfl⟩,eu⟩
  ·have hok:d.kind=4∨d.q.kind=d.kind∧QyIs d.q 200:=.inr ⟨by rw [←h2,←hq.kind];exact h5,hy⟩
   refine ite (fun _=>?_) (fun h=>absurd rfl h)
   refine rld (B:=B1) rfl ?_
   refine ite (fun h6=>?_) (fun h6=>⟨.f fun m=>h6 (by rw [h1];exact m.2.1.1),stp⟩)
   refine rld (B:=B1) rfl ?_
   refine ite (fun h7=>?_) (fun h7=>⟨.f fun m=>h7 (by rw [h1];exact m.2.1.2),stp⟩)
   refine rldG (ds:=enc x) (B:=B1) rfl (Enc.len x) ?_
   refine rcall (zEr (d:=d) ⟨h1,h2,hq.up (w':=u)⟩) ?_
   rintro v w9 ⟨hz,e9⟩
   refine⟨?_,stp⟩
   rcases hz with ⟨rfl,hz⟩|⟨rfl,hz⟩
   ·exact .t ⟨hok,⟨by rw [←h1];exact h6,by rw [←h1];exact h7⟩,hz⟩
   ·exact .f fun m=>hz m.2.2
  ·refine ite (fun h=>absurd h (by decide)) (fun _=>?_)
   exact⟨.f fun m=>by
    have q_:=m.1
    rcases q_ with h|h
    ·exact h4 (by rw [h2];exact h)
    ·exact hy h.2,stp⟩
 ·exact⟨.f fun m=>by
   have q_:=m.1
   rcases q_ with h|h
   ·exact h4 (by rw [h2];exact h)
   ·exact h5 (by rw [hq.kind,h2];exact h.1),stp⟩
def RqO (B:Nat) (w:World) (x:RReq) (d:RqD):Prop:=x.id=d.id∧x.kind=d.kind∧QyO B w x.q d.q
theorem RqO.v{x:RReq}{d:RqD}(h:RqO B w x d):RqV w x d:=⟨h.1,h.2.1,⟨h.2.2.1,h.2.2.2.1,h.2.2.2.2.1,h.2.2.2.2.2.1.sl,h.2.2.2.2.2.2.1,h.2.2.2.2.2.2.2⟩⟩
theorem zL1{r t:List UInt8}(h:rdQ k r=some (q,t)):q.words.length≤8∧∀s∈q.words,s.size≤4000:=by
 unfold rdQ at h
 split at h
 ·cases h
 ·split at h
  ·split at h
   ·cases h
   ·cases h;simp
  ·split at h
   ·cases h
   ·rename_i ws r2 hw
    split at h
    ·cases h
    ·split at h
     ·cases h
     ·cases h
      have:=zEb hw
      refine⟨by simpa using this.1,fun s hs=>?_⟩
      have q_:=List.mem_map.1 hs
      obtain⟨l,hl,rfl⟩:=q_
      have:=this.2 l hl
      simpa [bsOf,ByteArray.size] using this
theorem rdR_1(h:rdN s=none):rdR s=none:=by unfold rdR;rw [h]
theorem rdR_2{r1:List UInt8}{id:Nat}(h:rdN s=some (id,r1)):rdR s=match rdN r1 with
  |none=>none
  |some (k,r2)=>if k≤4 then (if k=4 then some (⟨id,4,zQy⟩,r2) else match rdQ k r2 with
   |none=>none
   |some (q,r3)=>some (⟨id,k,q⟩,r3)) else none:=by unfold rdR;rw [h];rfl
abbrev zRq:RReq:=⟨0,0,⟨0,0,0,⟨none,0,0⟩,0,0⟩⟩
abbrev RpT (s:List UInt8) (b:Nat) (w:World) (v:Value) (w':World):Prop:=∃d A' x,RdsV rdR s 0 d A'∧RqIs d∧v=agg x∧RqO w.heap.size w' x d∧FrB w' b s A'∧Fr (fun i=>i=b) w w'
abbrev RpN (s:List UInt8) (b:Nat) (w:World) (c:List PanicEntry) (w':World):Prop:=c=PanF∧(∀d t,rdR s=some (d,t)→¬RqIs d)∧Fr (fun i=>i=b) w w'
set_option maxHeartbeats 1000000 in
theorem zDn{b:Nat}(B:FrB w b s 0)(hs:s.length≤4611686018427387904):
  SpP PP F.qy #[.pointer (some ⟨b,0,none⟩)] w (fun v w'=>RpT s b w v w') (fun c w'=>RpN s b w c w'):=by
 have hbl:=B.lt
 refine enP TBok rfl ?_
 refine ral fun br w1 n1 R1=>?_
 have hb1:=n1.b;have hs1:=n1.s
 have R1:Bk w1 br (enc zRq) E.qd:=R1
 refine rcallP (zBA (B.mv (w:=w1)) hs) ?_ ?_
 case' refine_2 =>
  rintro _ w2 ⟨rfl,hno,f2⟩
  have hfin:RpN s b w PanF w2:=⟨rfl,(fun d t h=>by rw [rdR_1 (by simpa using hno)] at h;cases h),(Fr.fr n1.e).trans f2⟩
  exact hfin
 rintro _ w2 ⟨id,A2,hr2,rfl,B2,f2⟩
 have R2:=R1.fr f2 (by omega)
 have z2:=f2.size
 refine rbuild (cs:=enc (⟨id,0,⟨0,0,0,⟨none,0,0⟩,0,0⟩⟩:RReq)) rfl ?_
 refine ral fun bx w3 n3 X3=>?_
 have hb3:=n3.b;have hs3:=n3.s
 refine rsto (B:=X3) (vs:=enc (⟨id,0,⟨0,0,0,⟨none,0,0⟩,0,0⟩⟩:RReq)) rfl rfl rfl (Enc.one _) fun w4 X4 f4 _=>?_
 have X4:Bk w4 bx (enc (⟨id,0,⟨0,0,0,⟨none,0,0⟩,0,0⟩⟩:RReq)) E.qd:=X4
 have hlr:=R1.lt
 have hne1:¬br=bx:=by omega
 have hne2:¬b=bx:=by omega
 have R4:=(R2.mv (w:=w3)).fr f4 hne1
 have B4:FrB w4 b s A2:=(B2.mv (w:=w3)).fr f4 hne2
 have F4:Fr (fun i=>i=b) w w4:=Fr.st' ((((Fr.fr n1.e).trans f2).trans (Fr.fr n3.e))) f4 fun i hi=>by omega
 have z4:=f4.size
 have e2:=rdR_2 (show rdN s=some (id,s.drop A2) by simpa using hr2.2)
 refine rcallP (zGA (m:=4) B4 hs) ?_ ?_
 case' refine_2 =>
  rintro _ w5 ⟨rfl,hno,f5⟩
  have hfin:RpN s b w PanF w5:=by
   refine⟨rfl,fun d t h=>?_,F4.trans f5⟩
   rw [e2] at h
   cases hn:rdN (s.drop A2) with
   |none=>rw [hn] at h;cases h
   |some p =>
    obtain⟨k,t'⟩:=p
    rw [hn] at h
    simp only at h
    rw [if_neg (hno k t' hn)] at h;cases h
  exact hfin
 rintro _ w5 ⟨k,A5,hr5,hk,rfl,B5,f5⟩
 have e5:rdR s=(if k=4 then some (⟨id,4,zQy⟩,s.drop A5) else match rdQ k (s.drop A5) with
   |none=>none
   |some (q,r3)=>some (⟨id,k,q⟩,r3)):=by rw [e2,hr5.2];simp only;rw [if_pos hk]
 have X5:=X4.fr f5 (by omega)
 have R5:=R4.fr f5 (by omega)
 have z5:=f5.size
 refine rsto (B:=X5) (vs:=[.int .i64 (k:Int)]) rfl rfl rfl (int_o _) fun w6 X6 f6 _=>?_
 have X6:Bk w6 bx (enc (⟨id,k,⟨0,0,0,⟨none,0,0⟩,0,0⟩⟩:RReq)) E.qd:=X6
 have R6:=R5.fr f6 hne1
 have B6:FrB w6 b s A5:=B5.fr f6 hne2
 have lx:=X4.lt
 have F6:Fr (fun i=>i=b) w w6:=Fr.st' (F4.trans f5) f6 fun i hi=>by omega
 have z6:=f6.size
 refine rld (B:=X6) rfl ?_
 refine ite (fun h4=>?_) (fun h4=>?_)
 ·dsimp only at h4
  have hk4:¬k=4:=by omega
  rw [if_neg hk4] at e5
  refine rld (B:=X6) rfl ?_
  refine rcallP (zJT (kind:=k) B6 hs) ?_ ?_
  case' refine_2 =>
   rintro _ w7 ⟨rfl,hno,f7⟩
   have hfin:RpN s b w PanF w7:=⟨rfl,(fun d t h=>by rw [e5,hno] at h;cases h),F6.trans f7⟩
   exact hfin
  rintro _ w7 ⟨q,A7,xq,hr7,rfl,OQ,B7,f7⟩
  have z7:=f7.size
  have X7:=X6.fr f7 (by omega)
  have R7:=R6.fr f7 (by omega)
  refine rsto (B:=X7) (vs:=enc xq) rfl rfl rfl (Enc.one _) fun w8 X8 f8 _=>?_
  have XU:Bk w8 bx (enc (⟨id,k,xq⟩:RReq)) E.qd:=X8
  have RU:=R7.fr f8 hne1
  have BU:FrB w8 b s A7:=B7.fr f8 hne2
  have FU:Fr (fun i=>i=b) w w8:=Fr.st' (F6.trans f7) f8 fun i hi=>by omega
  have z8:=f8.size
  have hz6:w.heap.size≤w6.heap.size:=by omega
  have OU:RqO w.heap.size w8 (⟨id,k,xq⟩:RReq) ⟨id,k,q⟩:=⟨rfl,rfl,OQ.1,OQ.2.1,OQ.2.2.1,(OQ.2.2.2.1.frc f8 X7 (by decide)).mono hz6,OQ.2.2.2.2⟩
  have hrd:RdsV rdR s 0 (⟨id,k,q⟩:RqD) A7:=⟨hr7.1,by rw [List.drop_zero,e5,hr7.2]⟩
  have q_:∃x,x=(⟨id,k,xq⟩:RReq):=⟨_,rfl⟩
  obtain⟨x,hx⟩:=q_
  have q_:∃d,d=(⟨id,k,q⟩:RqD):=⟨_,rfl⟩
  obtain⟨d,hd⟩:=q_
  have q_:∃y,y=A7:=⟨_,rfl⟩
  obtain⟨AU,hAU⟩:=q_
  have hsmall:d.q.words.length≤1000000∧∀t∈d.q.words,t.size≤1000000:=by
   have h8:=zL1 hr7.2
   rw [hd]
   exact⟨Nat.le_trans h8.1 (by decide),fun t ht=>Nat.le_trans (h8.2 t ht) (by decide)⟩
  rw [←hx] at XU OU
  rw [←hd] at OU hrd
  rw [←hAU] at BU hrd
  have hsm:d.q.words.length≤1000000∧∀t∈d.q.words,t.size≤1000000:=hsmall
  refine rldG (ds:=enc x) (B:=XU) rfl (Enc.len x) ?_
  refine rcall (zET (d:=d) OU.v hsm.1 hsm.2) ?_
  rintro _ w9 ⟨⟨rfl,hm⟩|⟨rfl,hm⟩,e9⟩
  ·refine rcallP zAb ?_ ?_
   ·rintro _ w9 ⟨_,rfl,rfl⟩
    have X9:=XU.mv (w:=w9)
    have R9:=RU.mv (w:=w9)
    refine rldG (ds:=enc x) (B:=X9) rfl (Enc.len x) ?_
    refine rsto (B:=R9) (vs:=enc x) rfl rfl rfl (Enc.one _) fun w10 R10 f10 _=>?_
    have R10:Bk w10 br (enc x) E.qd:=R10
    have B10:FrB w10 b s AU:=(Bk.mv (w:=w9) BU).fr f10 (by omega)
    have F10:Fr (fun i=>i=b) w w10:=Fr.st' (FU.trans (Fr.fr e9.e)) f10 fun i hi=>by omega
    refine rresG (B:=R10) rfl ?_
    have hfin:RpT s b w (agg x) w10:=⟨d,AU,x,hrd,hm,rfl,⟨OU.1,OU.2.1,OU.2.2.1,OU.2.2.2.1,OU.2.2.2.2.1,(OU.2.2.2.2.2.1.up (w':=w9)).frc f10 R9 (by decide),OU.2.2.2.2.2.2⟩,B10,F10⟩
    exact hfin
   ·rintro _ _ ⟨h,_⟩;cases h
  ·refine rcallP zAb ?_ ?_
   ·rintro _ _ ⟨h,_⟩;cases h
   ·rintro _ w9 ⟨_,rfl,rfl⟩
    have hfin:RpN s b w PanF w9:=by
     refine⟨rfl,fun d' t h hd=>?_,FU.trans (Fr.fr e9.e)⟩
     have h2:=hrd.2
     rw [List.drop_zero,h] at h2
     cases h2
     exact hm hd
    exact hfin
 ·dsimp only at h4
  have hk4:k=4:=by omega
  rw [if_pos hk4] at e5
  have XU:Bk w6 bx (enc (⟨id,k,⟨0,0,0,⟨none,0,0⟩,0,0⟩⟩:RReq)) E.qd:=X6
  have RU:=R6
  have BU:=B6
  have FU:=F6
  have OU:RqO w.heap.size w6 (⟨id,k,⟨0,0,0,⟨none,0,0⟩,0,0⟩⟩:RReq) ⟨id,4,zQy⟩:=⟨rfl,by rw [hk4];rfl,rfl,rfl,rfl,Own.nil _ _ _,rfl,rfl⟩
  have hrd:RdsV rdR s 0 (⟨id,4,zQy⟩:RqD) A5:=⟨hr5.1,by rw [List.drop_zero,e5]⟩
  have q_:∃x,x=(⟨id,k,⟨0,0,0,⟨none,0,0⟩,0,0⟩⟩:RReq):=⟨_,rfl⟩
  obtain⟨x,hx⟩:=q_
  have q_:∃d,d=(⟨id,4,zQy⟩:RqD):=⟨_,rfl⟩
  obtain⟨d,hd⟩:=q_
  have q_:∃y,y=A5:=⟨_,rfl⟩
  obtain⟨AU,hAU⟩:=q_
  have hsmall:d.q.words.length≤1000000∧∀t∈d.q.words,t.size≤1000000:=by rw [hd];simp [zQy]
  rw [←hx] at XU OU
  rw [←hd] at OU hrd
  rw [←hAU] at BU hrd
  have hsm:d.q.words.length≤1000000∧∀t∈d.q.words,t.size≤1000000:=hsmall
  refine rldG (ds:=enc x) (B:=XU) rfl (Enc.len x) ?_
  refine rcall (zET (d:=d) OU.v hsm.1 hsm.2) ?_
  rintro _ w9 ⟨⟨rfl,hm⟩|⟨rfl,hm⟩,e9⟩
  ·refine rcallP zAb ?_ ?_
   ·rintro _ w9 ⟨_,rfl,rfl⟩
    have X9:=XU.mv (w:=w9)
    have R9:=RU.mv (w:=w9)
    refine rldG (ds:=enc x) (B:=X9) rfl (Enc.len x) ?_
    refine rsto (B:=R9) (vs:=enc x) rfl rfl rfl (Enc.one _) fun w10 R10 f10 _=>?_
    have R10:Bk w10 br (enc x) E.qd:=R10
    have B10:FrB w10 b s AU:=(Bk.mv (w:=w9) BU).fr f10 (by omega)
    have F10:Fr (fun i=>i=b) w w10:=Fr.st' (FU.trans (Fr.fr e9.e)) f10 fun i hi=>by omega
    refine rresG (B:=R10) rfl ?_
    have hfin:RpT s b w (agg x) w10:=⟨d,AU,x,hrd,hm,rfl,⟨OU.1,OU.2.1,OU.2.2.1,OU.2.2.2.1,OU.2.2.2.2.1,(OU.2.2.2.2.2.1.up (w':=w9)).frc f10 R9 (by decide),OU.2.2.2.2.2.2⟩,B10,F10⟩
    exact hfin
   ·rintro _ _ ⟨h,_⟩;cases h
  ·refine rcallP zAb ?_ ?_
   ·rintro _ _ ⟨h,_⟩;cases h
   ·rintro _ w9 ⟨_,rfl,rfl⟩
    have hfin:RpN s b w PanF w9:=by
     refine⟨rfl,fun d' t h hd=>?_,FU.trans (Fr.fr e9.e)⟩
     have h2:=hrd.2
     rw [List.drop_zero,h] at h2
     cases h2
     exact hm hd
    exact hfin
theorem zFX{h:HitD}:Sp PP F.qv #[agg h] w fun v w'=>Tells (¬HitOk h) v∧Stp w w':=by
 refine en TBok rfl ?_
 refine rbx fun b1 w1 n1 B1=>?_
 refine rld (B:=B1) rfl ?_
 refine ite (fun h1=>⟨.t (fun e=>by have:=e.1;omega),stp⟩) (fun h1=>?_)
 refine rld (B:=B1) rfl ?_
 refine ite (fun h2=>⟨.t (fun e=>by have:=e.2.1;omega),stp⟩) (fun h2=>?_)
 refine rld (B:=B1) rfl ?_
 refine ite (fun h3=>⟨.t (fun e=>by have:=e.2.2.1;omega),stp⟩) (fun h3=>?_)
 refine rld (B:=B1) rfl ?_
 refine ite (fun h4=>⟨.t (fun e=>by have:=e.2.2.2;omega),stp⟩) (fun h4=>⟨.f (fun e=>e ⟨by omega,by omega,by omega,by omega⟩),stp⟩)
theorem zCW{c:Nat}{l:List HitD}(h:SlF w (.slice a n c) l)(hn:l.length≤1000000):
  Sp PP F.zb #[.slice a n c,.func (.func F.qv) #[] #[]] w fun v w'=>((∃k:Nat,v=.int .i64 (k:Int)∧∃y∈l,¬HitOk y)∨(v=.int .i64 (-1)∧∀y∈l,HitOk y))∧Stp w w':=by
 have q_:=h.len
 obtain rfl:=q_
 refine en TBok rfl ?_
 refine cnt TBok 9 [4,5] 8 l.length (fun k u=>(∀y∈l.take k,HitOk y)∧Stp w u) rfl rfl ⟨by simp,stp⟩ ?_
 rintro k g u hk ⟨hall,e⟩
 refine ite (fun hlt=>?_) (fun hge=>?_)
 ·have hka:k<l.length:=by omega
  refine rix (h.up (w':=u)) (x:=l[k]) (by simp) fun b1 o1 A1=>rloadA A1 rfl ?_
  refine rcall (zFX (h:=l[k])) ?_
  rintro _ u1 ⟨⟨rfl,hy⟩|⟨rfl,hy⟩,e1⟩
  ·exact⟨.inl ⟨k,rfl,l[k],List.getElem_mem _,hy⟩,stp⟩
  ·refine rar (by omega) ⟨rfl,hka,fun t ht=>?_,stp⟩
   rw [zAa hka] at ht
   have q_:=List.mem_append.1 ht
   rcases q_ with ht|ht
   ·exact hall t ht
   ·rw [List.mem_singleton.1 ht];exact Classical.not_not.1 hy
 ·have q_:k=l.length:=by omega
  obtain rfl:=q_
  rw [List.take_of_length_le (Nat.le_refl _)] at hall
  exact⟨.inr ⟨rfl,hall⟩,stp⟩
theorem zA1{c:Nat}{l:List HitD}(h:SlF w (.slice a n c) l)(hn:l.length≤1000000):
  Sp PP F.yx #[.slice a n c,.func (.func F.qv) #[] #[]] w fun v w'=>Tells (∃y∈l,¬HitOk y) v∧Stp w w':=by
 refine en TBok rfl ?_
 refine rcall (zCW h hn) ?_
 rintro _ u1 ⟨⟨k,rfl,hy⟩|⟨rfl,hy⟩,e1⟩
 ·refine ite (fun h1=>⟨.t hy,stp⟩) (fun h1=>absurd h1 (by omega))
 ·refine ite (fun h1=>absurd h1 (by omega)) (fun h1=>⟨.f (fun⟨y,h2,h3⟩=>h3 (hy y h2)),stp⟩)
set_option maxHeartbeats 2000000 in
theorem zBQ{x : RepD}{l : List HitD}(h : SlF w (.slice x.a.s.a x.a.s.n x.a.s.c) l)(hn : l.length ≤ 1000000) :
    Sp PP F.d1 #[agg x] w fun v w' => Tells (RepOk x l) v ∧ Stp w w' := by
  obtain ⟨id, code, fd, num, sa, sn, sc⟩ := x
  have hlen : sn = l.length := h.len
  have no : ∀ u : World, Stp w u → ¬ RepOk ⟨id, code, fd, num, sa, sn, sc⟩ l → Tells (RepOk ⟨id, code, fd, num, sa, sn, sc⟩ l) (.bool false) ∧ Stp w u := fun u s hf => ⟨.f hf, s⟩
  have l0 : l.length = 0 → l = [] := List.eq_nil_of_length_eq_zero
  refine en TBok rfl ?_
  refine rbx fun b1 w1 n1 B1 => ?_
  refine rldG (ds := enc (⟨fd, num, sa, sn, sc⟩ : AnsD)) (B := B1) rfl rfl ?_
  refine ral fun b2 w2 n2 z2 => ?_
  refine rsto (B := z2) (vs := enc (⟨fd, num, sa, sn, sc⟩ : AnsD)) rfl rfl rfl (Enc.one _) fun w3 B3 f3 _ => ?_
  have s3 : Stp w1 w3 := ⟨Fr.st Le.e f3 fun i hi => by subst hi; exact n2.lo⟩
  have B2 : Bk w3 b2 [.bool fd, .int .i64 num, .slice sa sn sc] E.qi := B3
  have B1 := B1.mv (w := w3)
  clear B3 z2 f3
  refine rld (B := B2) rfl ?_
  refine ite (fun (z1 : num = 0) => ?pp) (fun (z1 : ¬ num = 0) => ?n1)
  case' pp =>
    refine rld (B := B2) rfl ?_
    refine ite (fun (z2 : (sn : Int) = 0) => ?yy) (fun (z2 : ¬ (sn : Int) = 0) => ?n2)
  case' n1 => have hz : ¬ (num = 0 ∧ l = []) := fun e => z1 e.1
  case' n2 => have hz : ¬ (num = 0 ∧ l = []) := fun e => by rw [e.2] at hlen; simp at hlen; omega
  case' yy => have hz : num = 0 ∧ l = [] := ⟨z1, l0 (by omega)⟩
  all_goals
    refine rld (B := B1) rfl ?_
    refine ite (fun (h : id < 0) => no _ stp fun e => by have := e.1.1; dsimp only at this; omega) (fun (h1 : ¬ id < 0) => ?_)
    refine rld (B := B1) rfl ?_
    refine ite (fun (h : 2147483647 < id) => no _ stp fun e => by have := e.1.2; dsimp only at this; omega) (fun (h2 : ¬ 2147483647 < id) => ?_)
    refine rld (B := B1) rfl ?_
    refine ite (fun (h : code < 0) => no _ stp fun e => by have := e.2.1.1; dsimp only at this; omega) (fun (h3 : ¬ code < 0) => ?_)
    refine rld (B := B1) rfl ?_
    refine ite (fun (h : 1000 < code) => no _ stp fun e => by have := e.2.1.2; dsimp only at this; omega) (fun (h4 : ¬ 1000 < code) => ?_)
    have base : (0 ≤ id ∧ id ≤ 2147483647) ∧ (0 ≤ code ∧ code ≤ 1000) := ⟨⟨by omega, by omega⟩, by omega, by omega⟩
    refine rld (B := B1) rfl ?_
    refine ite (fun (hc : code ≠ 0) => ?_) (fun (hc : ¬ code ≠ 0) => ?_)
    · cases fd
      · first
        | exact no _ stp fun e => hz (e.2.2.2.2.1 hc).2
        | (refine rld (B := B2) rfl ?_
           exact ⟨.t ⟨base.1, base.2, ⟨by show 0 ≤ num; omega, by show num ≤ 400; omega⟩, by rw [hz.2]; simp, fun _ => ⟨rfl, hz⟩, fun _ => hz, .inl hz.2, by rw [hz.2]; simp⟩, stp⟩)
      · first
        | exact no _ stp fun e => nomatch (e.2.2.2.2.1 hc).1
        | (refine rld (B := B2) rfl ?_
           exact no _ stp fun e => nomatch (e.2.2.2.2.1 hc).1)
    · have hc0 : code = 0 := Classical.not_not.1 hc
      refine rld (B := B2) rfl ?_
      cases fd
      · first
        | exact no _ stp fun e => hz (e.2.2.2.2.2.1 rfl)
        | (refine rld (B := B2) rfl ?_
           exact ⟨.t ⟨base.1, base.2, ⟨by show 0 ≤ num; omega, by show num ≤ 400; omega⟩, by rw [hz.2]; simp, fun h => absurd hc0 h, fun _ => hz, .inl hz.2, by rw [hz.2]; simp⟩, stp⟩)
      · refine rld (B := B2) rfl ?_
        refine ite (fun (h5 : 0 ≤ num) => ?_) (fun (h5 : ¬ 0 ≤ num) => no _ stp fun e => by have := e.2.2.1.1; dsimp only at this; omega)
        refine rld (B := B2) rfl ?_
        refine ite (fun (h6 : num ≤ 400) => ?_) (fun (h6 : ¬ num ≤ 400) => no _ stp fun e => by have := e.2.2.1.2; dsimp only at this; omega)
        refine rld (B := B2) rfl ?_
        refine ite (fun (h7 : (sn : Int) ≤ 100) => ?_) (fun (h7 : ¬ (sn : Int) ≤ 100) => no _ stp fun e => by have := e.2.2.2.1; omega)
        have go : (l = [] ∨ num = 0) → ∀ {u : World} {v : Value}, Tells (∃ y ∈ l, ¬ HitOk y) v → ∃ b : Bool, v = .bool b ∧ Tells (RepOk ⟨id, code, true, num, sa, sn, sc⟩ l) (.bool (!b)) := by
          rintro ho u v (⟨rfl, y, hy1, hy2⟩ | ⟨rfl, hy⟩)
          · exact ⟨true, rfl, .f fun e => hy2 (e.2.2.2.2.2.2.2 y hy1)⟩
          · exact ⟨false, rfl, .t ⟨base.1, base.2, ⟨h5, h6⟩, by omega, fun h => absurd hc0 h, (fun h => nomatch h), ho, fun y hy' => Classical.not_not.1 fun h => hy ⟨y, hy', h⟩⟩⟩
        refine rld (B := B2) rfl ?_
        refine ite (fun (h8 : num = 0) => ?_) (fun (h8 : ¬ num = 0) => ?_)
        · refine rld (B := B2) rfl ?_
          refine rcall (zA1 (h.up (w' := w3)) hn) ?_
          rintro v u4 ⟨hv, e4⟩
          have q_ := go (.inr h8) (u := u4) hv
          obtain ⟨b, rfl, hT⟩ := q_
          exact ⟨hT, stp⟩
        · refine rld (B := B2) rfl ?_
          refine ite (fun (h9 : (sn : Int) = 0) => ?_) (fun (h9 : ¬ (sn : Int) = 0) => no _ stp fun e => by
            have q_ := e.2.2.2.2.2.2.1
            rcases q_ with h' | h'
            · rw [h'] at hlen; simp at hlen; omega
            · exact h8 h')
          refine rld (B := B2) rfl ?_
          refine rcall (zA1 (h.up (w' := w3)) hn) ?_
          rintro v u4 ⟨hv, e4⟩
          have q_ := go (.inl (l0 (by omega))) (u := u4) hv
          obtain ⟨b, rfl, hT⟩ := q_
          exact ⟨hT, stp⟩
def digs (n:Nat):List (Nat×Bool):=if h:n<128 then [(n,false)] else (n % 128,true)::digs (n / 128)
termination_by n
decreasing_by omega
theorem zG4(h:n<128):digs n=[(n,false)]:=by rw [digs,dif_pos h]
theorem zG3(h:¬n<128):digs n=(n % 128,true)::digs (n / 128):=by rw [digs,dif_neg h]
def dgV (p:Nat×Bool):List Value:=[.int .i64 (p.1:Int),.bool p.2]
def dgB (p:Nat×Bool):UInt8:=UInt8.ofNat (if p.2 then p.1+128 else p.1)
theorem zHv(n:Nat):(digs n).map dgB=numB n:=by
 induction n using Nat.strongRecOn with
 |ind n ih =>
  by_cases h:n<128
  ·rw [zG4 h,numB_lt h];rfl
  ·rw [zG3 h,zBV h,List.map_cons,ih (n / 128) (by omega)]
   congr 1
   show UInt8.ofNat (n % 128+128)=_
   rw [Nat.add_comm]
theorem zK5(n:Nat):∀p∈digs n,p.1<128:=by
 induction n using Nat.strongRecOn with
 |ind n ih =>
  by_cases h:n<128
  ·rw [zG4 h];intro p hp;simp at hp;subst hp;exact h
  ·rw [zG3 h];intro p hp
   have q_:=List.mem_cons.1 hp
   rcases q_ with rfl|hp
   ·show n % 128<128;omega
   ·exact ih (n / 128) (by omega) p hp
theorem zMt(h:n≤2147483647):(digs n).length≤5:=by
 have:=zD6 h
 rw [←zHv,List.length_map] at this
 exact this
abbrev DgQ (b:Nat) (u u':World):Prop:=Fr (fun i=>i=b) u u'∧∃x,Bk u b [.int .i64 x] E.qa
abbrev DgR (b:Nat) (u u':World):Prop:=∀x,Bk u b [.int .i64 x] E.qa→Bk u' b [.int .i64 x] E.qa
theorem zK4{b:Nat}(hn:n≤2147483647):SeqG PP F.qw [] [.pointer (some ⟨b,0,none⟩)] (DgQ b) (DgR b) (fun u=>Bk u b [.int .i64 (n:Int)] E.qa)
  (fun ys x _=>∃rest,ys++x::rest=(digs n).map dgV) (fun ys=>ys=(digs n).map dgV):=by
 refine⟨fun y J Jx w hJ hJx hY h0 B0=>?_⟩
 refine en TBok rfl ?_
 refine loop0 TBok 4 [2,3] (fun u=>∃ys m:_,ys++(digs m).map dgV=(digs n).map dgV∧J ys u∧Bk u b [.int .i64 ((m:Nat):Int)] E.qa∧m≤2147483647) (cellN b) rfl ⟨[],n,rfl,h0,B0,hn⟩ ?_
 rintro g u ⟨ys,m,hys,hj,B,hm⟩
 refine rld (B:=B) rfl ?_
 refine rremE (z:=((m % 128:Nat):Int)) (by omega) (by omega) (by omega) ?_
 refine rld (B:=B) rfl ?_
 refine rdivE (q:=((m / 128:Nat):Int)) (by omega) (by rw [Int.tdiv_eq_ediv_of_nonneg (by omega)];omega) (by omega) ?_
 refine rsto (B:=B) (vs:=[.int .i64 _]) rfl rfl rfl (zAf _) fun u1 B1 f1 _=>?_
 refine rld (B:=B1) rfl ?_
 have hj1:=hJ _ _ _ hj ⟨f1,_,B⟩
 refine ite (fun hgt=>?_) (fun hle=>?_)
 ·have hd:=zG3 (n:=m) (by omega)
  refine ryield (vs:=dgV (m % 128,true)) rfl rfl rfl rfl (hY ys u1 _ ⟨(digs (m / 128)).map dgV,by rw [←hys,hd];rfl⟩ hj1) ?_
  rintro bb u2 ⟨⟨rfl,hj2⟩|⟨rfl,hx⟩,hR⟩
  ·have B2:=hR _ B1
   refine rld (B:=B2) rfl ?_
   refine ite (fun h=>absurd h (by omega)) (fun _=>?_)
   refine⟨⟨ys++[dgV (m % 128,true)],m / 128,by rw [List.append_assoc,←hys,hd];rfl,hj2,B2,by omega⟩,?_⟩
   rw [zIH B2,zIH B]
   omega
  ·exact .inr hx
 ·have hd:=zG4 (n:=m) (by omega)
  have hm1:m % 128=m:=by omega
  refine ryield (vs:=dgV (m,false)) rfl rfl rfl (by rw [←hm1];exact congrArg (fun q:Nat=>[Value.int .i64 (q:Int),.bool false]) (by omega)) (hY ys u1 _ ⟨[],by rw [←hys,hd];rfl⟩ hj1) ?_
  rintro bb u2 ⟨⟨rfl,hj2⟩|⟨rfl,hx⟩,hR⟩
  ·have B2:=hR _ B1
   refine rld (B:=B2) rfl ?_
   refine ite (fun _=>?_) (fun h=>absurd (by omega) h)
   refine .inl ⟨_,?_,hj2⟩
   rw [←hys,hd];rfl
  ·exact .inr hx
theorem zHo{n:Int}:Sp PP F.cb #[.int .i64 n] w fun v w'=>(∃b,v=.func (.func F.qw) #[] #[.pointer (some ⟨b,0,none⟩)]∧w.heap.size≤b∧Bk w' b [.int .i64 n] E.qa)∧Stp w w':=by
 refine en TBok rfl ?_
 refine rbx fun b1 w1 n1 B1=>?_
 exact⟨⟨b1,rfl,n1.lo,B1⟩,stp⟩
set_option maxHeartbeats 1000000 in
theorem zHn{n : Int} : Sp PP F.y0 #[.int .i64 n] w fun v w' => v = numV n ∧ Stp w w' := by
  have no : ¬ (0 ≤ n ∧ n ≤ 2147483647) → numV n = .tuple #[txt [], .int .i64 1] := fun h => if_neg h
  refine en TBok rfl ?_
  refine ite (fun h => ⟨(no (by omega)).symm, stp⟩) (fun h1 => ?_)
  refine ite (fun h => ⟨(no (by omega)).symm, stp⟩) (fun h2 => ?_)
  have ok : numV n = .tuple #[txt (numB n.toNat), .int .i64 0] := if_pos (by omega)
  clear no
  have q_ : ∃ N : Nat, n = (N : Int) := ⟨n.toNat, by omega⟩
  obtain ⟨N, rfl⟩ := q_
  rw [Int.toNat_natCast] at ok
  have hN : N ≤ 2147483647 := by omega
  have hl5 := zMt hN
  refine ral fun b4 w1 n1 B4 => ?_
  refine rcall (zHo (n := (N : Int))) ?_
  rintro v w2 ⟨⟨bd, rfl, hbd, Bd⟩, e2⟩
  have C4 := B4.mv (w := w2)
  have hb4 := n1.b; have hs4 := n1.s
  have z2 := Le.size (a := w) (b := w2)
  refine rrangeG TBok rfl (gf := F.qw) (first := []) (cap := [.pointer (some ⟨bd, 0, none⟩)]) (Rc := fun c u => (∃ D, Fr D c u) ∧ DgR bd c u) rfl rfl (zK4 (b := bd) hN)
    (by rintro ys x _ ⟨rest, h⟩
        have : x ∈ (digs N).map dgV := by rw [← h]; simp
        have q_ := List.mem_map.1 this
        obtain ⟨p, _, rfl⟩ := q_
        rfl) (fun u u' h => ⟨_, h.1⟩)
    (fun ys u => ∃ k, ys = ((digs N).take k).map dgV ∧ k ≤ (digs N).length ∧ ∃ oa on oc, Bk u b4 [.slice oa on oc] E.yl ∧ Own w.heap.size E.yd u (.slice oa on oc) (((digs N).take k).map dgB) ∧ Stp w u) (fun _ _ => False)
    ?_ ?_ ?_ ?_ ?_ (fun c u h => h.1) (fun w' e => by have := Bd.fr e id; exact this) ⟨0, rfl, by omega, none, 0, 0, C4, Own.nil _ _ _, stp⟩ ?_ ?_ ?_
  · rintro ys u u' ⟨k, h1, h2, oa, on, oc, h3, h4, h5⟩ q; exact ⟨k, h1, h2, oa, on, oc, h3.qt q, h4.qt q, h5.qt (q.mono z2)⟩
  · rintro _ u u' h; exact h.elim
  · rintro ys u u' _ ⟨k, h1, h2, oa, on, oc, h3, h4, h5⟩ ⟨q, x, Bx⟩
    exact ⟨k, h1, h2, oa, on, oc, h3.fr q (by omega), h4.frc q Bx (by decide), ⟨Fr.st h5.e q fun i hi => by subst hi; exact Nat.le_trans (by omega) hbd⟩⟩
  · rintro _ u u' _ h; exact h.elim
  · rintro u c u2 u3 q1 ⟨_, r⟩ q2 x B; exact (r x (B.qt q1)).qt q2
  · rintro ys x u ⟨rest, hr⟩ _ ⟨k, h1, h2, oa, on, oc, h3, h4, h5⟩
    have hk : k < (digs N).length := by
      have q_ := Nat.lt_or_ge k (digs N).length
      rcases q_ with h | h
      · exact h
      · exfalso
        have := congrArg List.length hr
        rw [h1] at this
        simp at this; omega
    have hx : x = dgV (digs N)[k] := by
      have hyl : ys.length = k := by rw [h1, List.length_map, List.length_take]; omega
      have e1 : (((digs N).map dgV))[k]? = some x := by rw [← hr, ← hyl, List.getElem?_append_right (Nat.le_refl _)]; simp
      rw [List.getElem?_map, List.getElem?_eq_getElem hk] at e1
      exact (Option.some.inj e1).symm
    have ht := zAa hk
    have hsm := zK5 N _ (List.getElem_mem hk)
    have q_ : ∃ p, p = (digs N)[k] := ⟨_, rfl⟩
    obtain ⟨⟨d, m⟩, hdm⟩ := q_
    rw [← hdm] at hx ht hsm
    subst hx
    refine ⟨Fr.refl _ _, fun u1 q => ?_⟩
    have h3 := h3.qt q; have h4 := h4.qt q; have h5 := h5.qt (q.mono z2)
    have hlen : (((digs N).take k).map dgB).length ≤ 5 := by rw [List.length_map, List.length_take]; omega
    have hys : ys ++ [dgV (d, m)] = ((digs N).take (k + 1)).map dgV := by rw [h1, ht]; simp
    have hbs : ((digs N).take k).map dgB ++ [dgB (d, m)] = ((digs N).take (k + 1)).map dgB := by rw [ht]; simp
    cases m
    case' false =>
      refine rld (B := h3) rfl ?_
      refine rconvE (z := ((dgB (d, false)).toNat : Int)) (zKX (x := d) (by dsimp only at hsm; omega)) ?_
      refine rbs1 (dgB (d, false)) rfl rfl (by decide) fun b6 w6 e6 _ S6 => ?_
    case' true =>
      refine rarE (y := ((d + 128 : Nat) : Int)) (by omega) (by dsimp only at hsm; omega) ?_
      refine rld (B := h3) rfl ?_
      refine rconvE (z := ((dgB (d, true)).toNat : Int)) (zKX (x := d + 128) (by dsimp only at hsm; omega)) ?_
      refine rbs1 (dgB (d, true)) rfl rfl (by decide) fun b6 w6 e6 _ S6 => ?_
    all_goals
      refine rapp1 (u := w) ⟨rfl, rfl⟩ (h4.up (w' := w6)) S6 (by omega) fun v7 w7 O7 f7 s7 => ?_
      have r1 := (h3.mv (w := w6)).fro (h4.up (w' := w6)) f7 (by decide)
      rw [hbs] at O7
      have q7 := O7.shape
      obtain ⟨a7, c7, rfl⟩ := q7
      refine rsto (B := r1) (vs := [.slice a7 _ c7]) rfl rfl rfl (by simp; rfl) fun w8 B8 f8 _ => ?_
      have s8 : Stp w w8 := ⟨Fr.st Le.e f8 fun i hi => by subst hi; exact n1.lo⟩
      refine ⟨⟨k + 1, hys, hk, a7, _, c7, B8, O7.frc f8 r1 (by decide), s8⟩, ⟨fun i => w.heap.size ≤ i, ((Fr.fr e6.e).trans s7.e).trans (f8.mono fun i _ hi => by subst hi; exact n1.lo)⟩, fun x Bx => ?_⟩
      have k1 := (Bx.mv (w := w6)).fro (h4.up (w' := w6)) f7 (by decide)
      exact k1.fr f8 (by omega)
  · rintro ys D u hE ⟨k, h1, h2, oa, on, oc, h3, h4, h5⟩ hD hd
    have hk : k = (digs N).length := by
      have := congrArg List.length (h1.symm.trans hE)
      simp at this; omega
    subst hk
    rw [List.take_of_length_le (Nat.le_refl _), zHv] at h4
    refine rld (B := h3) rfl ?_
    refine rbstr h4.sl ?_
    refine leave1 hd fun u' q => ?_
    exact ⟨ok.symm, h5.qt (q _ (by omega))⟩
  · rintro c D u h; exact h.elim
end Go.W
namespace Go.Proofs
open Go.Shelf
def Tryz.bld_ren:Go.Shelf.Ren:=⟨fun|166=>222|240=>275|276=>311|169=>142|n=>n,fun|0=>0|3=>3|4=>4|5=>5|9=>9|20=>20|37=>263|70=>262|72=>265|75=>351|80=>108|127=>354|164=>454|n=>n,fun|n=>n⟩
theorem Tryz.bldW:Go.Proofs.Lays.n166 Tryz.prog Tryz.bld_ren:={
 mixed:=by kernel_rfl
 f166:=Tryz.func222.trans (congrArg some (by kernel_rfl))
 f240:=Tryz.func275.trans (congrArg some (by kernel_rfl))
 f276:=Tryz.func311.trans (congrArg some (by kernel_rfl))
 t0:=Tryz.underlying0
 a0:=Tryz.isAgg0
 z0:=Tryz.sizeOf0
 v0:=Tryz.zeroValue0
 t3:=Tryz.underlying3
 a3:=Tryz.isAgg3
 z3:=Tryz.sizeOf3
 v3:=Tryz.zeroValue3
 t4:=Tryz.underlying4
 a4:=Tryz.isAgg4
 z4:=Tryz.sizeOf4
 v4:=Tryz.zeroValue4
 t9:=Tryz.underlying9
 a9:=Tryz.isAgg9
 z9:=Tryz.sizeOf9
 v9:=Tryz.zeroValue9
 t20:=Tryz.underlying20
 a20:=Tryz.isAgg20
 z20:=Tryz.sizeOf20
 v20:=Tryz.zeroValue20
 t37:=Tryz.underlying263
 a37:=Tryz.isAgg263
 z37:=Tryz.sizeOf263
 v37:=Tryz.zeroValue263
 t70:=Tryz.underlying262
 a70:=Tryz.isAgg262
 z70:=Tryz.sizeOf262
 v70:=Tryz.zeroValue262
 t72:=Tryz.underlying265
 a72:=Tryz.isAgg265
 z72:=Tryz.sizeOf265
 v72:=Tryz.zeroValue265
 t75:=Tryz.underlying351
 a75:=Tryz.isAgg351
 z75:=Tryz.sizeOf351
 v75:=Tryz.zeroValue351
 t164:=Tryz.underlying454
 a164:=Tryz.isAgg454
 z164:=Tryz.sizeOf454
 v164:=Tryz.zeroValue454 }
theorem Tryz.bldS:Go.Proofs.Lays.n169 Tryz.prog Tryz.bld_ren:={
 mixed:=by kernel_rfl
 f169:=Tryz.func142.trans (congrArg some (by kernel_rfl))
 t0:=Tryz.underlying0
 a0:=Tryz.isAgg0
 z0:=Tryz.sizeOf0
 v0:=Tryz.zeroValue0
 t3:=Tryz.underlying3
 a3:=Tryz.isAgg3
 z3:=Tryz.sizeOf3
 v3:=Tryz.zeroValue3
 t9:=Tryz.underlying9
 a9:=Tryz.isAgg9
 z9:=Tryz.sizeOf9
 v9:=Tryz.zeroValue9
 t37:=Tryz.underlying263
 a37:=Tryz.isAgg263
 z37:=Tryz.sizeOf263
 v37:=Tryz.zeroValue263
 t70:=Tryz.underlying262
 a70:=Tryz.isAgg262
 z70:=Tryz.sizeOf262
 v70:=Tryz.zeroValue262
 t72:=Tryz.underlying265
 a72:=Tryz.isAgg265
 z72:=Tryz.sizeOf265
 v72:=Tryz.zeroValue265
 t127:=Tryz.underlying354
 a127:=Tryz.isAgg354
 z127:=Tryz.sizeOf354
 v127:=Tryz.zeroValue354 }
theorem Tryz.bldX:Builder.Extra Tryz.prog Tryz.bld_ren:={
 sizeBuilder:=by kernel_rfl
 liesBuilder:=by kernel_rfl
 t5:=Tryz.underlying5
 a5:=Tryz.isAgg5
 z5:=Tryz.sizeOf5
 v5:=Tryz.zeroValue5
 infoByte:=by kernel_rfl
 cellsByte:=by kernel_rfl
 sizeByte:=by kernel_rfl
 neB5:=by decide }
end Go.Proofs
namespace Go.W
open Go Go.Proofs
open Enc (enc)
set_option maxRecDepth 10000
variable {B N i j k m n n2 n3:Nat} {P:Program} {a a2 a3:Option Addr} {g:GrD} {q:QyD} {s:List UInt8} {u w w':World}
theorem SlY.frB{α:Type}[Enc α]{e T:TypeId}{b:Nat}{es:List TypeId}{v:Value}{l:List α}(h:SlY e w v l)(f:FrX (fun i=>i=b) B es w w')(hb:∃c z,w.heap[b]? = some (.cells c T z))(hT:T≠e)(he:e∉es):SlY e w' v l:=
 h.fr f (by
  rintro g cs z hg hc (rfl|hD)
  ·obtain⟨c,z',h'⟩:=hb
   rw [h'] at hc;cases hc;exact hT rfl
  ·exact he (hD.cells hc))
abbrev BldR (B b:Nat) (l:List UInt8) (w:World):Prop:=BldB E.yk E.yd B b l w
abbrev BldF (B b:Nat) (w w':World):Prop:=FrX (fun i=>i=b) B [E.yd] w w'
theorem zFS{b:Nat}{l m:List UInt8}(h:BldR B b l w)(hB:B≤w.heap.size)(hlen:l.length+m.length≤140737488355328):
  Sp PP F.qd #[.pointer (some ⟨b,0,none⟩),txt m] w fun v w'=>v=.tuple #[.int .i64 m.length,.nilIface]∧BldR B b (l++m) w'∧BldF B b w w':=
 zLy (f:=F.qd) Tryz.bldW Tryz.bldX rfl rfl rfl (FnAt.can (f:=F.qd) inferInstance) h hB hlen
theorem zCf{b:Nat}{l:List UInt8}(h:BldR B b l w)(hB:B≤w.heap.size):
  Sp PP F.qh #[.pointer (some ⟨b,0,none⟩)] w fun v w'=>v=txt l∧BldR B b l w'∧BldF B b w w':=
 zK0 (f:=F.qh) Tryz.bldS Tryz.bldX rfl rfl rfl (FnAt.can (f:=F.qh) inferInstance) h hB
theorem zIv{n:Int}:Sp PP F.y0 #[.int .i64 n] w fun v w'=>(∃e:Int,v=.tuple #[txt (if 0≤n∧n≤2147483647 then numB n.toNat else []),.int .i64 e])∧Stp w w':=
 zHn.mono fun _ _ h1=>⟨by
  rw [h1.1];unfold numV
  split
  ·exact⟨0,rfl⟩
  ·exact⟨1,rfl⟩,h1.2⟩
theorem zCG{b:Nat}{bs:List UInt8}{c:Nat}{l:List Int}(hb:BldR B b bs w)(h:SlY E.qa w (.slice a n c) l)(hB:B≤w.heap.size)(hn:l.length≤1000000)(hl:bs.length≤1000000000):
  Sp PP F.qac #[.pointer (some ⟨b,0,none⟩),.slice a n c] w fun v w'=>v=.tuple #[]∧BldR B b (bs++numsB l) w'∧BldF B b w w':=by
 have q_:=h.len
 obtain rfl:=q_
 refine en TBok rfl ?_
 refine cnt TBok 11 [4,5,6,7] 10 l.length (fun k u=>BldR B b (bs++numsB (l.take k)) u∧BldF B b w u) rfl rfl ⟨by simpa [numsB] using hb,FrX.refl _ _ _ _⟩ ?_
 rintro k g u hk ⟨hu,fu⟩
 refine ite (fun hlt=>?_) (fun hge=>?_)
 ·have hka:k<l.length:=by omega
  have hs:=zLj hka
  have h1:=zAW (l.take (k+1))
  rw [List.length_take,hs,List.length_append] at h1
  have hz:=h.frB fu hb.obj (by decide) (by decide)
  refine rix hz.sl (x:=l[k]) (by simp) fun b4 o4 A4=>rload1 (A4.cell0 rfl) ?_
  refine rcall (zIv (n:=l[k])) ?_
  rintro _ u1 ⟨⟨e9,rfl⟩,e1⟩
  refine rcall (zFS (hu.up (w':=u1)) (Nat.le_trans hB (Nat.le_trans fu.size e1.e.size)) (by rw [List.length_append];omega)) ?_
  rintro _ u2 ⟨rfl,h2,f2⟩
  rw [List.append_assoc,←hs] at h2
  refine rar (by omega) ⟨rfl,hka,h2,(fu.trans (FrX.ext e1.e)).trans f2⟩
 ·have q_:k=l.length:=by omega
  obtain rfl:=q_
  rw [List.take_of_length_le (Nat.le_refl _)] at hu
  exact⟨rfl,hu,fu⟩
theorem SlY.of_new{α:Type}[Enc α]{e:TypeId}{b:Nat}{cs:Array Value}{xs:List α}(h:SlF w' (.slice (some ⟨b,0,none⟩) n n) xs)(N:New w w' b cs e):SlY e w' (.slice (some ⟨b,0,none⟩) n n) xs:=⟨h,.inr ⟨b,_,_,rfl,N.blk⟩⟩
set_option maxHeartbeats 2000000 in
theorem zCh{x:RepD}{l:List HitD}(h:SlF w (.slice x.a.s.a x.a.s.n x.a.s.c) l)(hn:l.length≤1000000):
  Sp PP F.p2 #[agg x] w fun v w'=>((RepOk x l∧v=.tuple #[txt (encR x l),.int .i64 0])∨(¬RepOk x l∧v=.tuple #[txt [],.int .i64 1]))∧Stp w w':=by
 obtain⟨id,code,fd,num,sa,sn,sc⟩:=x
 have hlen:sn=l.length:=h.len
 refine en TBok rfl ?_
 refine rbx fun b1 w1 n1 B1=>?_
 refine rldG (ds:=enc (⟨id,code,fd,num,sa,sn,sc⟩:RepD)) (B:=B1) rfl rfl ?_
 refine rcall (zBQ (x:=⟨id,code,fd,num,sa,sn,sc⟩) (h.up (w':=w1)) hn) ?_
 rintro v w2 ⟨⟨rfl,hok⟩|⟨rfl,hok⟩,e2⟩
 case' inr=>exact⟨.inr ⟨hok,rfl⟩,stp⟩
 have z2:=Le.size (a:=w) (b:=w2)
 refine ral fun b4 w3 n3 B3=>?_
 have hb1:=n1.b;have hs1:=n1.s;have hb4:=n3.b;have hs4:=n3.s;have z12:=Le.size (a:=w1) (b:=w2)
 have hBb:w.heap.size≤b4:=by omega
 have L0:BldR w.heap.size b4 [] w3:=zNu hBb B3
 clear B3
 refine rld (B:=B1) rfl ?_
 refine rld (B:=B1) rfl ?_
 refine rbs (α:=Int) [id,code] rfl (vs:=[.int .i64 id,.int .i64 code]) rfl rfl (by decide) fun b5 w5 n5 S5=>?_
 have s5:Stp w3 w5:=⟨n5.ext⟩
 have z5:=Le.size (a:=w) (b:=w5)
 refine rcall (zCG (L0.up (w':=w5)) (SlY.of_new S5 n5) z5 (by simp) (by simp)) ?_
 rintro _ w6 ⟨rfl,L6,f6⟩
 rw [List.nil_append] at L6
 have s6:Stp w w6:=⟨FrX.st Le.e f6 (Nat.le_refl _) fun i hi=>by omega⟩
 have z6:=s6.e.size
 have C1:=(B1.mv (w:=w5)).keptX f6 (by omega) (by decide)
 refine rld (B:=C1) rfl ?_
 have q1:=zAW [id,code]
 simp only [List.length_cons,List.length_nil] at q1
 refine ite (fun hc=>?_) (fun hc=>?_)
 ·have hv:Value.tuple #[txt (numsB [id,code]),.int .i64 0]=.tuple #[txt (encR ⟨id,code,fd,num,sa,sn,sc⟩ l),.int .i64 0]:=by
   unfold encR;rw [if_pos hc,List.append_nil]
  refine rcall (zCf L6 z6) ?_
  rintro _ w7 ⟨rfl,L7,f7⟩
  exact⟨.inl ⟨hok,hv⟩,⟨FrX.st s6.e f7 (Nat.le_refl _) fun i hi=>by omega⟩⟩
 refine rld (B:=C1) rfl ?_
 cases fd
 case' false =>
  refine rld (B:=C1) rfl ?_
  refine rld (B:=C1) rfl ?_
  refine rbs (α:=Int) [0,num,(sn:Int)] rfl (vs:=[.int .i64 0,.int .i64 num,.int .i64 (sn:Int)]) rfl rfl (by decide) fun b8 w8 n8 S8=>?_
  have q2:=zAW [0,num,(sn:Int)]
  have hfin:numsB [id,code]++numsB [0,num,(sn:Int)]++hitsB l=encR ⟨id,code,false,num,sa,sn,sc⟩ l:=by
   unfold encR
   rw [if_neg hc,hlen,List.append_assoc];rfl
 case' true =>
  refine rld (B:=C1) rfl ?_
  refine rld (B:=C1) rfl ?_
  refine rbs (α:=Int) [1,num,(sn:Int)] rfl (vs:=[.int .i64 1,.int .i64 num,.int .i64 (sn:Int)]) rfl rfl (by decide) fun b8 w8 n8 S8=>?_
  have q2:=zAW [1,num,(sn:Int)]
  have hfin:numsB [id,code]++numsB [1,num,(sn:Int)]++hitsB l=encR ⟨id,code,true,num,sa,sn,sc⟩ l:=by
   unfold encR
   rw [if_neg hc,hlen,List.append_assoc];rfl
 all_goals
  have s8:Stp w6 w8:=⟨n8.ext⟩
  have z8:=Le.size (a:=w) (b:=w8)
  simp only [List.length_cons,List.length_nil] at q2
  refine rcall (zCG (L6.up (w':=w8)) (SlY.of_new S8 n8) z8 (by simp) (by omega)) ?_
  rintro _ w9 ⟨rfl,L9,f9⟩
  have s9:Stp w w9:=⟨FrX.st Le.e f9 (Nat.le_refl _) fun i hi=>by omega⟩
  have z9:=s9.e.size
  have C9:=(C1.mv (w:=w8)).keptX f9 (by omega) (by decide)
  refine rld (B:=C9) rfl ?_
  refine cnt TBok 39 [7] 38 l.length (fun k u=>BldR w.heap.size b4 (numsB [id,code]++numsB _++hitsB (l.take k)) u∧Stp w u) rfl rfl ⟨by simpa [hitsB] using L9,s9⟩ ?_
  rintro k g u hk ⟨hu,eu⟩
  refine ite (fun hlt=>?_) (fun hge=>?_)
  ·have hka:k<l.length:=by have hlt':(k:Int)<(sn:Int):=hlt;omega
   have q_:∃y,l[k]? = some y:=⟨_,List.getElem?_eq_getElem hka⟩
   obtain⟨y,hy⟩:=q_
   refine rix (h.up (w':=u)) (x:=y) hy fun b7 o7 A7=>rloadA A7 rfl ?_
   refine ral fun b10 w10 n10 z10=>?_
   refine rsto (B:=z10) (vs:=enc y) rfl rfl rfl (Enc.one _) fun w11 B11 f11 _=>?_
   have s11:Stp u w11:=⟨Fr.st Le.e f11 fun i hi=>by subst hi;exact n10.lo⟩
   have BH:Bk w11 b10 [.int .i64 y.v,.int .i64 y.d] E.qm:=B11
   clear B11 z10 f11
   refine rld (B:=BH) rfl ?_
   refine rld (B:=BH) rfl ?_
   refine rbs (α:=Int) [y.v,y.d] rfl (vs:=[.int .i64 y.v,.int .i64 y.d]) rfl rfl (by decide) fun b12 w12 n12 S12=>?_
   have s12:Stp w11 w12:=⟨n12.ext⟩
   have q3:=zAW [y.v,y.d]
   have q4:=zHJ (l.take k)
   simp only [List.length_cons,List.length_nil,List.length_take] at q3 q4
   refine rcall (zCG (hu.up (w':=w12)) (SlY.of_new S12 n12) (Le.size (a:=w) (b:=w12)) (by simp) (by rw [List.length_append,List.length_append];omega)) ?_
   rintro _ w13 ⟨rfl,L13,f13⟩
   rw [List.append_assoc,←zLd hy] at L13
   refine rar (by omega) ⟨rfl,hka,L13,⟨FrX.st Le.e f13 (Nat.le_refl _) fun i hi=>by omega⟩⟩
  ·have hge':¬(k:Int)<(sn:Int):=hge
   have q_:k=l.length:=by omega
   obtain rfl:=q_
   rw [List.take_of_length_le (Nat.le_refl _),hfin] at hu
   refine rcall (zCf hu eu.e.size) ?_
   rintro _ w14 ⟨rfl,L14,f14⟩
   exact⟨.inl ⟨hok,rfl⟩,⟨FrX.st eu.e f14 (Nat.le_refl _) fun i hi=>by omega⟩⟩
theorem zEa{p r:List UInt8}:RdAt (p++r) p.length n↔n≤2147483647∧∃t,r=numB n++t:=by
 unfold RdAt;rw [List.drop_left]
abbrev RdrB (w:World) (b:Nat) (p r:List UInt8):Prop:=Bk w b [txt (p++r),.int .i64 (p.length:Nat)] E.qs
theorem RdrB.next{b:Nat}{p r t:List UInt8}(e:r=numB n++t)(h:Bk w b [txt (p++r),.int .i64 ((p.length+(numB n).length:Nat):Int)] E.qs):RdrB w b (p++numB n) t:=by
 unfold RdrB
 rw [List.length_append,List.append_assoc,←e]
 exact h
theorem zBg{p r:List UInt8}{b:Nat}(B:RdrB w b p r)(hs:p.length+r.length≤4611686018427387904):
  SpP PP F.ql #[.pointer (some ⟨b,0,none⟩)] w (fun v w'=>∃(n:Nat) (t:List UInt8),n≤2147483647∧r=numB n++t∧v=.int .i64 (n:Int)∧RdrB w' b (p++numB n) t∧Fr (fun i=>i=b) w w')
   (fun c w'=>c=PanF∧(∀(n:Nat) (t:List UInt8),n≤2147483647→r≠numB n++t)∧Fr (fun i=>i=b) w w'):=
 (zAR B (by rw [List.length_append];exact hs)).mono
  (fun v w' ⟨n,hr,hv,hB,hf⟩=>by
   have q_:=zEa.1 hr
   obtain⟨h1,t,ht⟩:=q_
   exact⟨n,t,h1,ht,hv,RdrB.next ht hB,hf⟩)
  (fun c w' ⟨hc,hno,hf⟩=>⟨hc,fun n t h1 ht=>hno n (zEa.2 ⟨h1,t,ht⟩),hf⟩)
theorem zEc{p r:List UInt8}{b:Nat}(B:RdrB w b p r)(hs:p.length+r.length≤4611686018427387904)(hm:m≤2147483647):
  SpP PP F.qs #[.pointer (some ⟨b,0,none⟩),.int .i64 (m:Int)] w (fun v w'=>∃(n:Nat) (t:List UInt8),n≤m∧r=numB n++t∧v=.int .i64 (n:Int)∧RdrB w' b (p++numB n) t∧Fr (fun i=>i=b) w w')
   (fun c w'=>c=PanF∧(∀(n:Nat) (t:List UInt8),n≤m→r≠numB n++t)∧Fr (fun i=>i=b) w w'):=
 (zDV B (by rw [List.length_append];exact hs)).mono
  (fun v w' ⟨n,hr,hn,hv,hB,hf⟩=>by
   have q_:=zEa.1 hr
   obtain⟨h1,t,ht⟩:=q_
   exact⟨n,t,hn,ht,hv,RdrB.next ht hB,hf⟩)
  (fun c w' ⟨hc,hno,hf⟩=>⟨hc,fun n t h1 ht=>hno n (zEa.2 ⟨by omega,t,ht⟩) h1,hf⟩)
theorem zAX{a:Int}{r:List Int}(h:0≤a∧a≤2147483647):numsB (a::r)=numB a.toNat++numsB r:=by simp [numsB,h]
theorem zE1:numsB []=[]:=rfl
def rest2 (x:RepD) (l:List HitD):List UInt8:=if x.code≠0 then [] else numB (if x.a.found then 1 else 0)++(numB x.a.num.toNat++(numB l.length++hitsB l))
theorem zBz{x:RepD}{l:List HitD}(h:RepOk x l):encR x l=numB x.id.toNat++(numB x.code.toNat++rest2 x l):=by
 unfold encR rest2
 have h1:=h.1;have h2:=h.2.1;have h3:=h.2.2.1;have h4:=h.2.2.2.1
 rw [zAX h1,zAX ⟨h2.1,by omega⟩,zE1,List.append_nil]
 split
 ·simp
 ·rw [zAX (by split <;> omega),zAX ⟨h3.1,by omega⟩,zAX (by omega),zE1]
  have:(if x.a.found=true then (1:Int) else 0).toNat=if x.a.found=true then 1 else 0:=by split <;> rfl
  rw [this]
  simp
theorem zBG{y:HitD}{r:List HitD}(h:HitOk y):hitsB (y::r)=numB y.v.toNat++(numB y.d.toNat++hitsB r):=by
 obtain⟨h1,h2,h3,h4⟩:=h
 have:hitsB (y::r)=numsB [y.v,y.d]++hitsB r:=by simp [hitsB]
 rw [this,zAX (by omega),zAX (by omega),zE1]
 simp
theorem RepOk.congr{x y:RepD}{l:List HitD}(h:RepOk x l)(h1:x.id=y.id)(h2:x.code=y.code)(h3:x.a.found=y.a.found)(h4:x.a.num=y.a.num):RepOk y l:=by
 unfold RepOk at h ⊢;rw [←h1,←h2,←h3,←h4];exact h
def Kn (s:List UInt8) (k:RepD→List HitD→List UInt8→Prop):Prop:=∀x l t,RepOk x l→s=encR x l++t→k x l t
theorem kn1{r:List UInt8}(e:s=numB n++r):Kn s fun x l t=>x.id.toNat=n∧r=numB x.code.toNat++(rest2 x l++t):=by
 intro x l t hok he
 rw [zBz hok,List.append_assoc,List.append_assoc,e] at he
 exact⟨(zAc he).1.symm,(zAc he).2⟩
theorem kn2{r r':List UInt8}(h:Kn s fun x l t=>x.id.toNat=n∧r=numB x.code.toNat++(rest2 x l++t))(e:r=numB m++r'):Kn s fun x l t=>x.id.toNat=n∧x.code.toNat=m∧r'=rest2 x l++t:=by
 intro x l t hok he
 have q_:=h x l t hok he
 obtain⟨h1,h2⟩:=q_
 rw [e] at h2
 exact⟨h1,(zAc h2).1.symm,(zAc h2).2⟩
theorem kn3{r:List UInt8}(h:Kn s fun x l t=>x.id.toNat=n∧x.code.toNat=0∧r=rest2 x l++t):Kn s fun x l t=>x.id.toNat=n∧x.code.toNat=0∧r=numB (if x.a.found then 1 else 0)++(numB x.a.num.toNat++(numB l.length++(hitsB l++t))):=by
 intro x l t hok he
 have q_:=h x l t hok he
 obtain⟨h1,h2,h3⟩:=q_
 refine⟨h1,h2,?_⟩
 have:x.code=0:=by have:=hok.2.1.1;omega
 rw [h3];unfold rest2
 rw [if_neg (by simp [this])]
 simp
theorem kn4{r r':List UInt8}(h:Kn s fun x l t=>x.id.toNat=n∧x.code.toNat=0∧r=numB (if x.a.found then 1 else 0)++(numB x.a.num.toNat++(numB l.length++(hitsB l++t))))(e:r=numB m++r'):
  Kn s fun x l t=>x.id.toNat=n∧x.code.toNat=0∧(if x.a.found then 1 else 0)=m∧r'=numB x.a.num.toNat++(numB l.length++(hitsB l++t)):=by
 intro x l t hok he
 have q_:=h x l t hok he
 obtain⟨h1,h2,h3⟩:=q_
 rw [e] at h3
 exact⟨h1,h2,(zAc h3).1.symm,(zAc h3).2⟩
theorem kn5{r r':List UInt8}{f:Nat}(h:Kn s fun x l t=>x.id.toNat=n∧x.code.toNat=0∧(if x.a.found then 1 else 0)=f∧r=numB x.a.num.toNat++(numB l.length++(hitsB l++t)))(e:r=numB m++r'):
  Kn s fun x l t=>x.id.toNat=n∧x.code.toNat=0∧(if x.a.found then 1 else 0)=f∧x.a.num.toNat=m∧r'=numB l.length++(hitsB l++t):=by
 intro x l t hok he
 have q_:=h x l t hok he
 obtain⟨h1,h2,h3,h4⟩:=q_
 rw [e] at h4
 exact⟨h1,h2,h3,(zAc h4).1.symm,(zAc h4).2⟩
abbrev KnH (s:List UInt8) (n f m N k:Nat) (hs:List HitD) (r:List UInt8):Prop:=
 Kn s fun x l t=>x.id.toNat=n∧x.code.toNat=0∧(if x.a.found then 1 else 0)=f∧x.a.num.toNat=m∧l.length=N∧l.take k=hs∧r=hitsB (l.drop k)++t
theorem kn6{r r':List UInt8}{f:Nat}(h:Kn s fun x l t=>x.id.toNat=n∧x.code.toNat=0∧(if x.a.found then 1 else 0)=f∧x.a.num.toNat=m∧r=numB l.length++(hitsB l++t))(e:r=numB N++r'):KnH s n f m N 0 [] r':=by
 intro x l t hok he
 have q_:=h x l t hok he
 obtain⟨h1,h2,h3,h4,h5⟩:=q_
 rw [e] at h5
 exact⟨h1,h2,h3,h4,(zAc h5).1.symm,rfl,(zAc h5).2⟩
theorem kn7{r:List UInt8}{f:Nat}{hs:List HitD}(h:KnH s n f m N k hs r)(hk:k<N):
  Kn s fun x l t=>x.id.toNat=n∧x.code.toNat=0∧(if x.a.found then 1 else 0)=f∧x.a.num.toNat=m∧l.length=N∧l.take k=hs∧∃y,l[k]? = some y∧HitOk y∧r=numB y.v.toNat++(numB y.d.toNat++(hitsB (l.drop (k+1))++t)):=by
 intro x l t hok he
 have q_:=h x l t hok he
 obtain⟨h1,h2,h3,h4,h5,h6,h7⟩:=q_
 have hkl:k<l.length:=by omega
 refine⟨h1,h2,h3,h4,h5,h6,l[k],List.getElem?_eq_getElem hkl,hok.2.2.2.2.2.2.2 _ (List.getElem_mem hkl),?_⟩
 rw [h7,List.drop_eq_getElem_cons hkl,zBG (hok.2.2.2.2.2.2.2 _ (List.getElem_mem hkl))]
 simp
theorem kn8{r r1 r2:List UInt8}{f v d:Nat}{hs:List HitD}(h:KnH s n f m N k hs r)(hk:k<N)(e1:r=numB v++r1)(e2:r1=numB d++r2):KnH s n f m N (k+1) (hs++[⟨v,d⟩]) r2:=by
 intro x l t hok he
 have q_:=kn7 h hk x l t hok he
 obtain⟨h1,h2,h3,h4,h5,h6,y,hy,ho,h7⟩:=q_
 rw [e1] at h7
 have q_:=zAc h7
 obtain⟨e3,e4⟩:=q_
 rw [e2] at e4
 have q_:=zAc e4
 obtain⟨e5,e6⟩:=q_
 refine⟨h1,h2,h3,h4,h5,?_,e6⟩
 have hkl:k<l.length:=by omega
 rw [zAa hkl,h6]
 have:l[k]=y:=by rw [List.getElem?_eq_getElem hkl] at hy;exact Option.some.inj hy
 rw [this]
 congr 1
 obtain⟨g1,_,g2,_⟩:=ho
 congr 1
 cases y
 congr 1 <;> simp only at g1 g2 e3 e5 ⊢ <;> omega
theorem zNQ(a b:Int)(c:Bool)(d:Int)(e:Option Addr)(n m:Nat):∀u∈[Value.int .i64 a,.int .i64 b,.bool c,.int .i64 d,.slice e n m],u.oneCell'=true:=by
 intro u hu;simp at hu;rcases hu with rfl|rfl|rfl|rfl|rfl <;> rfl
theorem sl1(e:Option Addr)(n m:Nat):∀u∈[Value.slice e n m],u.oneCell'=true:=by intro u hu;simp at hu;subst hu;rfl
abbrev PartOk (s:List UInt8) (b B:Nat) (w:World) (v:Value) (w':World):Prop:=
 ∃x l t,RepOk x l∧s=encR x l++t∧v=agg x∧RdrB w' b (encR x l) t∧Own B E.qm w' (.slice x.a.s.a x.a.s.n x.a.s.c) l∧Fr (fun i=>i=b) w w'
abbrev PartNo (s:List UInt8) (b:Nat) (w:World) (c:List PanicEntry) (w':World):Prop:=c=PanF∧(∀x l t,RepOk x l→s≠encR x l++t)∧Fr (fun i=>i=b) w w'
set_option maxHeartbeats 4000000 in
theorem zEE{b:Nat}(B:RdrB w b [] s)(hs:s.length≤1000000):
  SpP PP F.q4 #[.pointer (some ⟨b,0,none⟩)] w (PartOk s b w.heap.size w) (PartNo s b w):=by
 have hb:b<w.heap.size:=Bk.lt B
 refine enP TBok rfl ?_
 refine ral fun b2 w1 n1 z1=>?_
 have hb2:=n1.b;have hs2:=n1.s
 have B1:RdrB w1 b [] s:=B.mv
 refine rcallP (zBg B1 (by simp;omega)) ?_ ?_
 case' refine_2 =>
  rintro _ u ⟨rfl,hno,f⟩
  refine⟨rfl,fun x l t hok he=>?_,(Fr.fr (Le.e (a:=w) (b:=w1))).trans f⟩
  rw [zBz hok,List.append_assoc] at he
  exact hno _ _ (by have:=hok.1;omega) he
 rintro _ w2 ⟨n0,r1,hn0,e0,rfl,B2,f2⟩
 have K1:=kn1 e0
 have F2:Fr (fun i=>i=b) w w2:=(Fr.fr (Le.e (a:=w) (b:=w1))).trans f2
 have Z2:=z1.fr f2 (by omega)
 refine rbuild (cs:=[.int .i64 (n0:Int),.int .i64 0,.bool false,.int .i64 0,.slice none 0 0]) rfl ?_
 refine ral fun b3 w3 n3 z3=>?_
 have hb3:=n3.b;have hs3:=n3.s
 refine rsto (B:=z3) (vs:=[.int .i64 (n0:Int),.int .i64 0,.bool false,.int .i64 0,.slice none 0 0]) rfl rfl rfl (zNQ _ _ _ _ _ _ _) fun w4 B4 f4 _=>?_
 have s4:Stp w2 w4:=⟨Fr.st Le.e f4 fun i hi=>by subst hi;exact n3.lo⟩
 have z24:=Le.size (a:=w2) (b:=w4)
 have z02:=F2.size
 have nb3:∀i,i=b3→w.heap.size≤i:=by omega
 have nb2:∀i,i=b2→w.heap.size≤i:=by omega
 have nbb3:¬b=b3:=by omega
 have nbb3':¬b3=b:=by omega
 have nb23:¬b2=b3:=by have:=f2.size;omega
 have R4:RdrB w4 b ([]++numB n0) r1:=B2.mv
 have Z4:=Z2.mv (w:=w4)
 have hl1:(([]:List UInt8)++numB n0).length+r1.length=s.length:=by rw [e0];simp
 refine rcallP (zEc (m:=1000) R4 (by omega) (by decide)) ?_ ?_
 case' refine_2 =>
  rintro _ u ⟨rfl,hno,f⟩
  refine⟨rfl,fun x l t hok he=>?_,(F2.trans (Fr.fr (Le.e (a:=w2) (b:=w4)))).trans f⟩
  have:=hok.2.1
  exact hno _ _ (by omega) (K1 x l t hok he).2
 rintro _ w5 ⟨n1',r2,hn1,e1,rfl,B5,f5⟩
 have K2:=kn2 K1 e1
 have C5:=B4.fr f5 (by omega)
 have F5:=(F2.trans (Fr.fr (Le.e (a:=w2) (b:=w4)))).trans f5
 refine rsto (B:=C5) (vs:=[.int .i64 (n1':Int)]) rfl rfl rfl (zAf _) fun w6 C6 f6 _=>?_
 have F6:Fr (fun i=>i=b) w w6:=Fr.new F5 f6 nb3
 have B6:=Bk.fr B5 f6 nbb3
 have Z6:=(Z4.fr f5 (by omega)).fr f6 (by omega)
 refine rld (B:=C6) rfl ?_
 refine ite (fun(hc:(n1':Int)=0)=>?_) (fun(hc:¬(n1':Int)=0)=>?_)
 case' refine_2 =>
  refine rldG (ds:=enc (⟨n0,n1',false,0,none,0,0⟩:RepD)) (B:=C6) rfl rfl ?_
  refine rcall (zBQ (x:=⟨n0,n1',false,0,none,0,0⟩) (l:=[]) (SlF.nil _) (by simp)) ?_
  rintro v w7 ⟨⟨rfl,hok⟩|⟨rfl,hok⟩,e7⟩
  ·refine rcallP zAb ?_ ?_
   case' refine_2 =>
    rintro _ u ⟨h,_⟩;cases h
   rintro _ w8 ⟨_,rfl,rfl⟩
   have C8:=C6.mv (w:=w8);have Z8:=Z6.mv (w:=w8)
   refine rldG (ds:=enc (⟨n0,n1',false,0,none,0,0⟩:RepD)) (B:=C8) rfl rfl ?_
   refine rsto (B:=Z8) (vs:=enc (⟨n0,n1',false,0,none,0,0⟩:RepD)) rfl rfl rfl (Enc.one _) fun w9 Z9 f9 _=>?_
   refine rresG rfl ?_
   have he:encR ⟨n0,n1',false,0,none,0,0⟩ []=[]++numB n0++numB n1':=by
    rw [zBz hok]
    unfold rest2
    rw [if_pos hc]
    simp
   refine⟨⟨n0,n1',false,0,none,0,0⟩,[],r2,hok,by rw [he,e0,e1];simp,rfl,?_,Own.nil _ _ _,Fr.new (F6.trans (Fr.fr (Le.e (a:=w6) (b:=w8)))) f9 nb2⟩
   rw [he]
   exact(Bk.mv B6 (w:=w8)).fr f9 (by omega)
  ·refine rcallP zAb ?_ ?_
   ·rintro _ u ⟨h,_⟩;cases h
   rintro _ u ⟨_,rfl,rfl⟩
   refine⟨rfl,fun x l t hx he=>hok ?_,F6.trans (Fr.fr (Le.e (a:=w6) (b:=u)))⟩
   have q_:=K2 x l t hx he
   obtain⟨g1,g2,_⟩:=q_
   have q1:=hx.1;have q2:=hx.2.1
   have q3:=hx.2.2.2.2.1 (by omega)
   rw [q3.2.2] at hx
   exact hx.congr (by show x.id=(n0:Int);omega) (by show x.code=(n1':Int);omega) q3.1 q3.2.1
 have hn1z:n1'=0:=by omega
 subst hn1z
 have K3:=kn3 K2
 have hl2:([]++numB n0++numB 0).length+r2.length=s.length:=by rw [e0,e1];simp;omega
 refine rcallP (zEc (m:=1) B6 (by omega) (by decide)) ?_ ?_
 case' refine_2 =>
  rintro _ u ⟨rfl,hno,f⟩
  refine⟨rfl,fun x l t hok he=>?_,F6.trans f⟩
  exact hno _ _ (by split <;> omega) (K3 x l t hok he).2.2
 rintro _ w7 ⟨n2,r3,hn2,e2,rfl,B7,f7⟩
 have K4:=kn4 K3 e2
 have C7:=C6.fr f7 (by omega);have Z7:=Z6.fr f7 (by omega)
 have F7:=F6.trans f7
 refine ite (fun(hf:(n2:Int)=1)=>?pp) (fun(hf:¬(n2:Int)=1)=>?qq)
 case' pp =>
  obtain⟨fd,hfd,hfd2⟩:∃fd:Bool,fd=true∧((if fd then 1 else 0)=n2):=⟨true,rfl,by simp;omega⟩
  refine rsto (B:=C7) (vs:=[.bool true]) rfl rfl rfl (zAm _) fun w8 C8 f8 _=>?_
  rw [←hfd] at C8
  have C8:Bk w8 b3 [.int .i64 (n0:Int),.int .i64 0,.bool fd,.int .i64 0,.slice none 0 0] E.qc:=C8
 case' qq =>
  obtain⟨fd,hfd,hfd2⟩:∃fd:Bool,fd=false∧((if fd then 1 else 0)=n2):=⟨false,rfl,by simp;omega⟩
  refine rsto (B:=C7) (vs:=[.bool false]) rfl rfl rfl (zAm _) fun w8 C8 f8 _=>?_
  rw [←hfd] at C8
  have C8:Bk w8 b3 [.int .i64 (n0:Int),.int .i64 0,.bool fd,.int .i64 0,.slice none 0 0] E.qc:=C8
 all_goals
  have F8:Fr (fun i=>i=b) w w8:=Fr.new F7 f8 nb3
  have B8:=Bk.fr B7 f8 nbb3
  have Z8:=Z7.fr f8 (by omega)
  have hl3:([]++numB n0++numB 0++numB n2).length+r3.length=s.length:=by rw [e0,e1,e2];simp;omega
  refine rcallP (zBg B8 (by omega)) ?_ ?_
  case' refine_2 =>
   rintro _ u ⟨rfl,hno,f⟩
   refine⟨rfl,fun x l t hok he=>?_,F8.trans f⟩
   exact hno _ _ (by have:=hok.2.2.1;omega) (K4 x l t hok he).2.2.2
  rintro _ w9 ⟨n3',r4,hn3,e3,rfl,B9,f9⟩
  have K5:=kn5 K4 e3
  have C9:=C8.fr f9 (by omega);have Z9:=Z8.fr f9 (by omega)
  refine rsto (B:=C9) (vs:=[.int .i64 (n3':Int)]) rfl rfl rfl (zAf _) fun w10 C10 f10 _=>?_
  have C10:Bk w10 b3 [.int .i64 (n0:Int),.int .i64 0,.bool fd,.int .i64 (n3':Int),.slice none 0 0] E.qc:=C10
  have F10:Fr (fun i=>i=b) w w10:=Fr.new (F8.trans f9) f10 nb3
  have B10:=Bk.fr B9 f10 nbb3
  have Z10:=Z9.fr f10 (by omega)
  have hl4:([]++numB n0++numB 0++numB n2++numB n3').length+r4.length=s.length:=by rw [e0,e1,e2,e3];simp;omega
  refine rcallP (zEc (m:=100) B10 (by omega) (by decide)) ?_ ?_
  case' refine_2 =>
   rintro _ u ⟨rfl,hno,f⟩
   refine⟨rfl,fun x l t hok he=>?_,F10.trans f⟩
   exact hno _ _ (by have:=hok.2.2.2.1;omega) (K5 x l t hok he).2.2.2.2
  rintro _ w11 ⟨N,r5,hN,e4,rfl,B11,f11⟩
  have K6:=kn6 K5 e4
  have C11:=C10.fr f11 (by omega);have Z11:=Z10.fr f11 (by omega)
  have F11:=F10.trans f11
  have q_:∃pre,pre=[]++numB n0++numB 0++numB n2++numB n3'++numB N:=⟨_,rfl⟩
  obtain⟨pre,hpre⟩:=q_
  have hs5:s=pre++r5:=by rw [hpre,e0,e1,e2,e3,e4];simp
  rw [←hpre] at B11
  clear K1 K2 K3 K4 K5 e0 e1 e2 e3 e4 hl1 hl2 hl3 hl4
  refine cnt TBok 26 [4] 25 N (fun k u=>∃(hs:List HitD) (r:List UInt8) (oa:Option Addr) (oc:Nat),hs.length=k∧RdrB u b (pre++hitsB hs) r∧Bk u b3 [.int .i64 (n0:Int),.int .i64 0,.bool fd,.int .i64 (n3':Int),.slice oa hs.length oc] E.qc ∧
    Bk u b2 [.int .i64 0,.int .i64 0,.bool false,.int .i64 0,.slice none 0 0] E.qc∧Own w.heap.size E.qm u (.slice oa hs.length oc) hs∧Fr (fun i=>i=b) w u∧s=(pre++hitsB hs)++r∧KnH s n0 n2 n3' N k hs r) rfl rfl
   ⟨[],r5,none,0,rfl,by simpa [hitsB] using B11,C11,Z11,Own.nil _ _ _,F11,by simpa [hitsB] using hs5,K6⟩ ?_
  rintro k g u hk ⟨hs',r,oa,oc,hlk,Bu,Cu,Zu,Ou,Fu,hsu,Ku⟩
  have zu:=Fu.size
  refine ite (fun hlt=>?_) (fun hge=>?_)
  ·have hkN:k<N:=by omega
   have hll:(pre++hitsB hs').length+r.length=s.length:=by rw [hsu];simp;omega
   refine rcallP (zBg Bu (by omega)) ?_ ?_
   case' refine_2 =>
    rintro _ u' ⟨rfl,hno,f⟩
    refine⟨rfl,fun x l t hok he=>?_,Fu.trans f⟩
    have q_:=kn7 Ku hkN x l t hok he
    obtain⟨_,_,_,_,_,_,y,_,hy,hr⟩:=q_
    exact hno _ _ (by have:=hy.2.1;have:=hy.1;omega) hr
   rintro _ u1 ⟨nv,rv,hnv,ev1,rfl,Bu1,fu1⟩
   have Cu1:=Cu.fr fu1 (by omega);have Zu1:=Zu.fr fu1 (by omega)
   have ob:∀g:Nat,w.heap.size≤g→Value.blk (.slice oa hs'.length oc)=some g→¬g=b:=fun g hg _=>by omega
   have Ou1:=Ou.fr fu1 ob
   have Fu1:=Fu.trans fu1
   have hll1:(pre++hitsB hs'++numB nv).length+rv.length=s.length:=by rw [hsu,ev1];simp;omega
   have nod:∀(w':World),(∀(n:Nat) (t:List UInt8),n≤2147483647→rv≠numB n++t)→Fr (fun i=>i=b) w w'→PartNo s b w PanF w':=fun w' hno f=>by
    refine⟨rfl,fun x l t hok he=>?_,f⟩
    have q_:=kn7 Ku hkN x l t hok he
    obtain⟨_,_,_,_,_,_,y,_,hy,hr⟩:=q_
    rw [ev1] at hr
    exact hno _ _ (by have:=hy.2.2.2;have:=hy.2.2.1;omega) (zAc hr).2
   refine drawRT TBok mixed (fun i=>i=b∨i=b3∨ownD w.heap.size (.slice oa hs'.length oc) i) (.one 0 (.one 1 (.one 3 (.one 4 (.duo 2 (.one 5 (.one 6 (.one 7 (.one 8 (.one 9 (.one 10 (.one 11 .nil))))))) 5 (.one 6 (.duo 2 (.one 7 (.one 8 (.one 9 (.one 10 (.one 11 .nil))))) 7 (.lone 2 (.one 8 (.one 9 (.one 10 (.one 11 .nil)))))))))))) (by kernel_rfl) fun u2 es _=>?_
   have Bu2:=Bk.mv Bu1 (w:=u2);have Cu2:=Cu1.mv (w:=u2);have Zu2:=Zu1.mv (w:=u2)
   have Ou2:=Ou1.up (w':=u2)
   have Fu2:=Fu1.trans (Fr.fr (Le.e (a:=u1) (b:=u2)))
   refine⟨?_,?_⟩
   ·refine rld (B:=Cu2) rfl ⟨Fr.refl _ _,?_⟩
    refine rcallP (zBg Bu2 (by omega)) ?_ fun _ u' ⟨hc,hno,f⟩=>by subst hc;exact panR rfl rfl (nod u' hno (Fu2.trans f))
    rintro _ u3 ⟨nd,rd,hnd,ed,rfl,Bu3,fu3⟩
    refine⟨fu3.mono fun i _ hi=>.inl hi,?_⟩
    refine tbuild (cs:=[.int .i64 (nv:Int),.int .i64 (nd:Int)]) rfl ?_
    refine rbs1 (α:=HitD) ⟨nv,nd⟩ rfl rfl (by decide) fun b6 u4 e6 _ S6=>⟨e6.e.fr,?_⟩
    have Cu3:=Cu2.fr fu3 (by omega)
    have Ou3:=Ou2.fr fu3 ob
    have Zu3:=Zu2.fr fu3 (by omega)
    have Cu4:=Cu3.mv (w:=u4)
    have Ou4:=Ou3.up (w':=u4)
    refine rappB (B:=w.heap.size) ⟨rfl,rfl⟩ Ou4 S6 (by have:=Fu2.size;have:=fu3.size;have:=e6.e.size;omega) (by simp;omega) fun v7 u5 O7 f7=>⟨f7.mono fun i _ hi=>.inr (.inr hi),?_⟩
    have Cu5:=Cu4.fro Ou4 f7 (by decide)
    have Zu5:=(Zu3.mv (w:=u4)).fro Ou4 f7 (by decide)
    have Bu5:=(Bk.mv Bu3 (w:=u4)).fro Ou4 f7 (by decide)
    have q7:=O7.shape
    obtain⟨a7,c7,rfl⟩:=q7
    refine rsto (B:=Cu5) (vs:=[.slice a7 _ c7]) rfl rfl rfl (sl1 _ _ _) fun u6 Cu6 f8 _=>⟨f8.mono fun i _ hi=>.inr (.inl hi),?_⟩
    have Fu5:Fr (fun i=>i=b) w u5:=Fr.new ((Fu2.trans fu3).trans (Fr.fr e6.e)) f7 fun i hi=>hi.1
    refine rar (by omega) ⟨rfl,hkN,hs'++[(⟨(nv:Int),(nd:Int)⟩:HitD)],rd,a7,c7,by simp [hlk],?_,Cu6,Zu5.fr f8 nb23,O7.frc f8 Cu5 (by decide),Fr.new Fu5 f8 nb3,?_,kn8 Ku hkN ev1 ed⟩
    ·have hb6:=Bu5.fr f8 nbb3
     have:pre++hitsB (hs'++[(⟨(nv:Int),(nd:Int)⟩:HitD)])=pre++hitsB hs'++numB nv++numB nd:=by
      have g1:(nv:Int)≤2147483647:=by omega
      have g2:(nd:Int)≤2147483647:=by omega
      simp [hitsB,numsB,g1,g2]
     unfold RdrB;rw [this];exact hb6
    ·have g1:(nv:Int)≤2147483647:=by omega
     have g2:(nd:Int)≤2147483647:=by omega
     rw [hsu,ev1,ed]
     simp [hitsB,numsB,g1,g2]
   ·skip
    refine rcallP (zBg Bu2 (by omega)) ?_ fun _ u' ⟨hc,hno,f⟩=>by subst hc;exact panR rfl rfl (nod u' hno (Fu2.trans f))
    rintro _ u3 ⟨nd,rd,hnd,ed,rfl,Bu3,fu3⟩
    refine⟨fu3.mono fun i _ hi=>.inl hi,?_⟩
    refine tbuild (cs:=[.int .i64 (nv:Int),.int .i64 (nd:Int)]) rfl ?_
    have Cu3:=Cu2.fr fu3 nbb3'
    refine⟨?_,?_⟩
    ·refine rld (B:=Cu3) rfl ⟨Fr.refl _ _,?_⟩
     refine rbs1 (α:=HitD) ⟨nv,nd⟩ rfl rfl (by decide) fun b6 u4 e6 _ S6=>⟨e6.e.fr,?_⟩
     have Cu3:=Cu2.fr fu3 (by omega)
     have Ou3:=Ou2.fr fu3 ob
     have Zu3:=Zu2.fr fu3 (by omega)
     have Cu4:=Cu3.mv (w:=u4)
     have Ou4:=Ou3.up (w':=u4)
     refine rappB (B:=w.heap.size) ⟨rfl,rfl⟩ Ou4 S6 (by have:=Fu2.size;have:=fu3.size;have:=e6.e.size;omega) (by simp;omega) fun v7 u5 O7 f7=>⟨f7.mono fun i _ hi=>.inr (.inr hi),?_⟩
     have Cu5:=Cu4.fro Ou4 f7 (by decide)
     have Zu5:=(Zu3.mv (w:=u4)).fro Ou4 f7 (by decide)
     have Bu5:=(Bk.mv Bu3 (w:=u4)).fro Ou4 f7 (by decide)
     have q7:=O7.shape
     obtain⟨a7,c7,rfl⟩:=q7
     refine rsto (B:=Cu5) (vs:=[.slice a7 _ c7]) rfl rfl rfl (sl1 _ _ _) fun u6 Cu6 f8 _=>⟨f8.mono fun i _ hi=>.inr (.inl hi),?_⟩
     have Fu5:Fr (fun i=>i=b) w u5:=Fr.new ((Fu2.trans fu3).trans (Fr.fr e6.e)) f7 fun i hi=>hi.1
     refine rar (by omega) ⟨rfl,hkN,hs'++[(⟨(nv:Int),(nd:Int)⟩:HitD)],rd,a7,c7,by simp [hlk],?_,Cu6,Zu5.fr f8 nb23,O7.frc f8 Cu5 (by decide),Fr.new Fu5 f8 nb3,?_,kn8 Ku hkN ev1 ed⟩
     ·have hb6:=Bu5.fr f8 nbb3
      have:pre++hitsB (hs'++[(⟨(nv:Int),(nd:Int)⟩:HitD)])=pre++hitsB hs'++numB nv++numB nd:=by
       have g1:(nv:Int)≤2147483647:=by omega
       have g2:(nd:Int)≤2147483647:=by omega
       simp [hitsB,numsB,g1,g2]
      unfold RdrB;rw [this];exact hb6
     ·have g1:(nv:Int)≤2147483647:=by omega
      have g2:(nd:Int)≤2147483647:=by omega
      rw [hsu,ev1,ed]
      simp [hitsB,numsB,g1,g2]
    ·skip
     refine rbs1 (α:=HitD) ⟨nv,nd⟩ rfl rfl (by decide) fun b6 u4 e6 _ S6=>⟨e6.e.fr,?_⟩
     refine rld (B:=Cu3) rfl ⟨Fr.refl _ _,?_⟩
     have Cu3:=Cu2.fr fu3 (by omega)
     have Ou3:=Ou2.fr fu3 ob
     have Zu3:=Zu2.fr fu3 (by omega)
     have Cu4:=Cu3.mv (w:=u4)
     have Ou4:=Ou3.up (w':=u4)
     refine rappB (B:=w.heap.size) ⟨rfl,rfl⟩ Ou4 S6 (by have:=Fu2.size;have:=fu3.size;have:=e6.e.size;omega) (by simp;omega) fun v7 u5 O7 f7=>⟨f7.mono fun i _ hi=>.inr (.inr hi),?_⟩
     have Cu5:=Cu4.fro Ou4 f7 (by decide)
     have Zu5:=(Zu3.mv (w:=u4)).fro Ou4 f7 (by decide)
     have Bu5:=(Bk.mv Bu3 (w:=u4)).fro Ou4 f7 (by decide)
     have q7:=O7.shape
     obtain⟨a7,c7,rfl⟩:=q7
     refine rsto (B:=Cu5) (vs:=[.slice a7 _ c7]) rfl rfl rfl (sl1 _ _ _) fun u6 Cu6 f8 _=>⟨f8.mono fun i _ hi=>.inr (.inl hi),?_⟩
     have Fu5:Fr (fun i=>i=b) w u5:=Fr.new ((Fu2.trans fu3).trans (Fr.fr e6.e)) f7 fun i hi=>hi.1
     refine rar (by omega) ⟨rfl,hkN,hs'++[(⟨(nv:Int),(nd:Int)⟩:HitD)],rd,a7,c7,by simp [hlk],?_,Cu6,Zu5.fr f8 nb23,O7.frc f8 Cu5 (by decide),Fr.new Fu5 f8 nb3,?_,kn8 Ku hkN ev1 ed⟩
     ·have hb6:=Bu5.fr f8 nbb3
      have:pre++hitsB (hs'++[(⟨(nv:Int),(nd:Int)⟩:HitD)])=pre++hitsB hs'++numB nv++numB nd:=by
       have g1:(nv:Int)≤2147483647:=by omega
       have g2:(nd:Int)≤2147483647:=by omega
       simp [hitsB,numsB,g1,g2]
      unfold RdrB;rw [this];exact hb6
     ·have g1:(nv:Int)≤2147483647:=by omega
      have g2:(nd:Int)≤2147483647:=by omega
      rw [hsu,ev1,ed]
      simp [hitsB,numsB,g1,g2]
  ·have q_:k=N:=by omega
   obtain rfl:=q_
   refine rldG (ds:=enc (⟨n0,0,fd,n3',oa,hs'.length,oc⟩:RepD)) (B:=Cu) rfl rfl ?_
   refine rcall (zBQ (x:=⟨n0,0,fd,n3',oa,hs'.length,oc⟩) (l:=hs') Ou.sl (by omega)) ?_
   rintro v u1 ⟨⟨rfl,hok⟩|⟨rfl,hok⟩,eu1⟩
   ·refine rcallP zAb ?_ ?_
    case' refine_2 =>
     rintro _ u ⟨h,_⟩;cases h
    rintro _ u2 ⟨_,rfl,rfl⟩
    have C8:=Cu.mv (w:=u2);have Z8:=Zu.mv (w:=u2)
    refine rldG (ds:=enc (⟨n0,0,fd,n3',oa,hs'.length,oc⟩:RepD)) (B:=C8) rfl rfl ?_
    refine rsto (B:=Z8) (vs:=enc (⟨n0,0,fd,n3',oa,hs'.length,oc⟩:RepD)) rfl rfl rfl (Enc.one _) fun u3 Z9 f9 _=>?_
    refine rresG rfl ?_
    have he:encR ⟨n0,0,fd,n3',oa,hs'.length,oc⟩ hs'=pre++hitsB hs':=by
     rw [zBz hok]
     unfold rest2
     rw [if_neg (by simp),hpre,hlk]
     dsimp only
     rw [hfd2]
     simp
    refine⟨⟨n0,0,fd,n3',oa,hs'.length,oc⟩,hs',r,hok,by rw [he];exact hsu,rfl,?_,(Ou.up (w':=u2)).frc f9 Z8 (by decide),Fr.new (Fu.trans (Fr.fr (Le.e (a:=u) (b:=u2)))) f9 nb2⟩
    rw [he]
    exact(Bk.mv Bu (w:=u2)).fr f9 (by omega)
   ·refine rcallP zAb ?_ ?_
    ·rintro _ u ⟨h,_⟩;cases h
    rintro _ u2 ⟨_,rfl,rfl⟩
    refine⟨rfl,fun x l t hx he=>hok ?_,Fu.trans (Fr.fr (Le.e (a:=u) (b:=u2)))⟩
    have q_:=Ku x l t hx he
    obtain⟨g1,g2,g3,g4,g5,g6,_⟩:=q_
    have q1:=hx.1;have q2:=hx.2.1;have q3:=hx.2.2.1
    rw [List.take_of_length_le (by omega)] at g6
    rw [g6] at hx
    refine hx.congr (by show x.id=(n0:Int);omega) (by show x.code=0;omega) ?_ (by show x.a.num=(n3':Int);omega)
    show x.a.found=fd
    rw [←hfd2] at g3
    generalize x.a.found=q at g3 ⊢
    cases q <;> cases fd <;> simp at g3 ⊢
abbrev zRep:RepD:=⟨0,0,false,0,none,0,0⟩
theorem zBq{bx be:Nat}:SpD PP F.qp #[.pointer (some ⟨bx,0,none⟩),.pointer (some ⟨be,0,none⟩)] .returning w fun u' w'=>u'=.returning∧w'=w:=by
 refine SpD.enter TBok rfl rfl rfl rfl rfl rfl rfl (fun _ _=>rfl) rfl rfl ?_
 refine rtaN ?_
 exact⟨rfl,rfl,rfl⟩
theorem zBp{bx be:Nat}{x:RepD}{e:Int}(Bx:Bk w bx (enc x) E.qc)(Be:Bk w be [.int .i64 e] E.qj)(hne:¬be=bx):
  SpD PP F.qp #[.pointer (some ⟨bx,0,none⟩),.pointer (some ⟨be,0,none⟩)] (.panicking PanF) w fun u' w'=>settle u'=.returning∧Bk w' bx (enc zRep) E.qc∧Bk w' be [.int .i64 220] E.qj∧Fr (fun i=>i=bx∨i=be) w w':=by
 refine SpD.enter TBok rfl rfl rfl rfl rfl rfl rfl (fun _ _=>rfl) rfl rfl ?_
 refine rta ?_
 refine ral fun b4 w1 n1 z1=>?_
 refine rldG (ds:=enc zRep) (B:=z1) rfl rfl ?_
 refine rsto (B:=Bx.mv (w:=w1)) (vs:=enc zRep) rfl rfl rfl (Enc.one _) fun w2 B2 f2 _=>?_
 refine rsto (B:=(Be.mv (w:=w1)).fr f2 hne) (vs:=[.int .i64 220]) rfl rfl rfl (zAf _) fun w3 B3 f3 _=>?_
 exact⟨rfl,rfl,B2.fr f3 (fun h=>hne h.symm),B3,((Fr.fr (Le.e (a:=w) (b:=w1))).trans (f2.mono fun i _ hi=>.inl hi)).trans (f3.mono fun i _ hi=>.inr hi)⟩
theorem zMy{x y:RepD}{l m:List HitD}{t:List UInt8}(hx:RepOk x l)(hy:RepOk y m)(e:encR x l++s=encR y m++t):encR x l=encR y m∧s=t:=by
 have len:∀{a b:List UInt8} {s t:List UInt8},a++s=b++t→s=t→a=b:=fun h h'=>by subst h';exact List.append_cancel_right h
 suffices s=t from ⟨len e this,this⟩
 rw [zBz hx,zBz hy] at e
 simp only [List.append_assoc] at e
 have q_:=zAc e
 obtain⟨_,e⟩:=q_
 have q_:=zAc e
 obtain⟨h1,e⟩:=q_
 unfold rest2 at e
 have qx:=hx.2.1;have qy:=hy.2.1
 by_cases hc:x.code=0
 ·have hc':y.code=0:=by omega
  simp only [hc,hc',ne_eq,not_true_eq_false,if_false,List.append_assoc] at e
  have q_:=zAc e
  obtain⟨_,e⟩:=q_
  have q_:=zAc e
  obtain⟨_,e⟩:=q_
  have q_:=zAc e
  obtain⟨h2,e⟩:=q_
  have hh:∀(l m:List HitD),(∀h∈l,HitOk h)→(∀h∈m,HitOk h)→l.length=m.length→hitsB l++s=hitsB m++t→s=t:=by
   intro l
   induction l with
   |nil =>
    intro m _ _ h e
    cases m with
    |nil=>simpa [hitsB] using e
    |cons y r=>simp at h
   |cons a r ih =>
    intro m h1 h2 h e
    cases m with
    |nil=>simp at h
    |cons b q =>
     rw [zBG (h1 a List.mem_cons_self),zBG (h2 b List.mem_cons_self)] at e
     simp only [List.append_assoc] at e
     exact ih q (fun h hh=>h1 h (List.mem_cons_of_mem _ hh)) (fun h hh=>h2 h (List.mem_cons_of_mem _ hh)) (by simpa using h) (zAc (zAc e).2).2
  exact hh l m hx.2.2.2.2.2.2.2 hy.2.2.2.2.2.2.2 h2 e
 ·have hc':¬y.code=0:=by omega
  rw [if_pos hc,if_pos hc'] at e
  simpa using e
abbrev GetRep (s:List UInt8) (B:Nat) (v:Value) (w':World):Prop:=
 (∃x l,RepOk x l∧encR x l=s∧v=.tuple #[agg x,.int .i64 0]∧Own B E.qm w' (.slice x.a.s.a x.a.s.n x.a.s.c) l)∨((∀x l,RepOk x l→encR x l≠s)∧v=.tuple #[agg zRep,.int .i64 220])
set_option maxHeartbeats 1000000 in
theorem zEF(hs:s.length≤1000000):Sp PP F.ph #[txt s,.func (.func F.q4) #[] #[]] w fun v w'=>GetRep s w.heap.size v w'∧Stp w w':=by
 refine en TBok rfl ?_
 refine ral fun bx w1 n1 z1=>ral fun be w2 n2 z2=>?_
 have hbx:=n1.b;have hsx:=n1.s;have hbe:=n2.b;have hse:=n2.s
 refine rbuild (cs:=[txt s,.int .i64 0]) rfl ?_
 refine rbx fun br w3 n3 B3=>?_
 have hbr:=n3.b
 have R3:RdrB w3 br [] s:=B3
 clear B3
 have X3:Bk w3 bx (enc zRep) E.qc:=z1.mv
 have E3:Bk w3 be [.int .i64 0] E.qj:=z2.mv
 have z03:=Le.size (a:=w) (b:=w3)
 have hne:¬be=bx:=by omega
 have pan:∀{G:Nat→Value} {u:World} {x:RepD},Bk u bx (enc x) E.qc→Bk u be [.int .i64 0] E.qj→Stp w u→(∀x l,RepOk x l→encR x l≠s)→ev G (.tmp 4)=.pointer (some ⟨bx,0,none⟩)→ev G (.tmp 5)=.pointer (some ⟨be,0,none⟩) →
   LeaveS PP Tryz.f76.results.toList G [{ target:=.fn (.func F.qp) #[.pointer (some ⟨bx,0,none⟩),.pointer (some ⟨be,0,none⟩)],args:=#[] }] (.panicking PanF) (fun v w'=>GetRep s w.heap.size v w'∧Stp w w') (fun _ _=>False) u:=by
  intro G u x X E' e hno g4 g5
  refine zBk (by simp) ⟨(zBp X E' hne).can,zAI (zBp X E' hne).calls ?_⟩
  intro en u' w' he
  cases en with
  |returned v =>
   obtain⟨h1,X',E',f'⟩:=he
   show LeaveS PP _ _ [] (settle u') _ _ w'
   rw [h1]
   refine leave_ret ?_
   show resS PP [.cell 4 _,.cell 5 _] [] G _ w'
   simp only [resS,g4,g5]
   refine rresG (B:=X') rfl ?_
   refine rres (B:=E') rfl ?_
   exact⟨.inr ⟨hno,rfl⟩,⟨Fr.st e.e f' fun i hi=>by omega⟩⟩
  |panicked c=>exact he
  |outgrown=>exact he
 have nbr:∀i,i=br→w.heap.size≤i:=by omega
 have nbx:∀i,i=bx→w.heap.size≤i:=by omega
 have nxr:¬bx=br:=by omega
 have ner:¬be=br:=by omega
 refine rcallP (zEE (b:=br) R3 hs) ?_ ?_
 ·rintro _ w4 ⟨x,l,t,hok,he,rfl,R4,O4,f4⟩
  have s4:Stp w w4:=⟨Fr.st Le.e f4 nbr⟩
  have X4:=X3.fr f4 nxr
  have E4:=E3.fr f4 ner
  refine rsto (B:=X4) (vs:=enc x) rfl rfl rfl (Enc.one _) fun w5 X5 f5 _=>?_
  have X5:Bk w5 bx (enc x) E.qc:=X5
  have s5:Stp w w5:=⟨Fr.st s4.e f5 nbx⟩
  have E5:=E4.fr f5 hne
  have R5:=(Bk.fr R4 f5 (fun h=>nxr h.symm))
  have O5:=O4.frc f5 X4 (by decide)
  refine rcallP (zBM R5) ?_ ?_
  ·rintro _ w6 ⟨rfl,hA,e6⟩
   have ht:t=[]:=by
    rw [List.length_append] at hA
    exact List.eq_nil_of_length_eq_zero (by omega)
   subst ht
   rw [List.append_nil] at he
   have X6:=X5.mv (w:=w6)
   refine rldG (ds:=enc x) (B:=X6) rfl (Enc.len x) ?_
   refine rsto (B:=X6) (vs:=enc x) rfl rfl rfl (Enc.one _) fun w7 X7 f7 _=>?_
   have X7:Bk w7 bx (enc x) E.qc:=X7
   have s7:Stp w w7:=⟨Fr.st Le.e f7 nbx⟩
   have E7:=(E5.mv (w:=w6)).fr f7 hne
   have O7:=(O5.up (w':=w6)).frc f7 X6 (by decide)
   refine rsto (B:=E7) (vs:=[.int .i64 0]) rfl rfl rfl (zAf _) fun w8 E8 f8 _=>?_
   have X8:=X7.fr f8 (fun h=>hne h.symm)
   have s8:Stp w w8:=⟨Fr.st s7.e f8 fun i hi=>by omega⟩
   have O8:=O7.frc f8 E7 (by decide)
   refine zBk (by simp) ⟨(zBq (bx:=bx) (be:=be) (w:=w8)).can,zAI (zBq (bx:=bx) (be:=be) (w:=w8)).calls ?_⟩
   intro en u' w' hh
   cases en with
   |returned v =>
    obtain⟨rfl,rfl⟩:=hh
    refine leave_ret ?_
    refine rresG (B:=X8) rfl ?_
    refine rres (B:=E8) rfl ?_
    exact⟨.inl ⟨x,l,hok,he.symm,rfl,O8.older⟩,s8⟩
   |panicked c=>exact hh
   |outgrown=>exact hh
  ·rintro _ w6 ⟨rfl,hA,e6⟩
   exact pan (X5.mv (w:=w6)) (E5.mv (w:=w6)) stp (fun y m hy hm=>hA (by
    rw [he] at hm
    rw [(zMy hok hy (by rw [hm,List.append_nil]:encR x l++t=encR y m++[])).2]
    simp)) rfl rfl
 ·rintro _ w4 ⟨rfl,hno,f4⟩
  have s4:Stp w w4:=⟨Fr.st Le.e f4 nbr⟩
  exact pan (X3.fr f4 nxr) (E3.fr f4 ner) s4 (fun y m hy hm=>hno y m [] hy (by rw [hm,List.append_nil])) rfl rfl
theorem zFt(hs:s.length≤1000000):Sp PP F.yh #[txt s] w fun v w'=>GetRep s w.heap.size v w'∧Stp w w':=by
 refine en TBok rfl ?_
 refine ral fun bx w1 n1 z1=>?_
 have nbx:=n1.b
 refine rcall (zEF hs) ?_
 rintro v w2 ⟨⟨x,l,hok,he,rfl,O⟩|⟨hno,rfl⟩,e2⟩
 ·refine rsto (B:=z1.mv (w:=w2)) (vs:=enc x) rfl rfl rfl (Enc.one _) fun w3 X3 f3 _=>?_
  have X3:Bk w3 bx (enc x) E.qc:=X3
  refine rresG (B:=X3) rfl ?_
  exact⟨.inl ⟨x,l,hok,he,rfl,(O.frc f3 (z1.mv (w:=w2)) (by decide)).older⟩,⟨Fr.st Le.e f3 fun i hi=>by omega⟩⟩
 ·refine rsto (B:=z1.mv (w:=w2)) (vs:=enc zRep) rfl rfl rfl (Enc.one _) fun w3 X3 f3 _=>?_
  have X3:Bk w3 bx (enc zRep) E.qc:=X3
  refine rresG (B:=X3) rfl ?_
  exact⟨.inr ⟨hno,rfl⟩,⟨Fr.st Le.e f3 fun i hi=>by omega⟩⟩
theorem zBc{bx be:Nat}:SpD PP F.qk #[.pointer (some ⟨bx,0,none⟩),.pointer (some ⟨be,0,none⟩)] .returning w fun u' w'=>u'=.returning∧w'=w:=by
 refine SpD.enter TBok rfl rfl rfl rfl rfl rfl rfl (fun _ _=>rfl) rfl rfl ?_
 refine rtaN ?_
 exact⟨rfl,rfl,rfl⟩
theorem zBb{bx be:Nat}{x:RReq}{e:Int}(Bx:Bk w bx (enc x) E.qd)(Be:Bk w be [.int .i64 e] E.qj)(hne:¬be=bx):
  SpD PP F.qk #[.pointer (some ⟨bx,0,none⟩),.pointer (some ⟨be,0,none⟩)] (.panicking PanF) w fun u' w'=>settle u'=.returning∧Bk w' bx (enc zRq) E.qd∧Bk w' be [.int .i64 220] E.qj∧Fr (fun i=>i=bx∨i=be) w w':=by
 refine SpD.enter TBok rfl rfl rfl rfl rfl rfl rfl (fun _ _=>rfl) rfl rfl ?_
 refine rta ?_
 refine ral fun b4 w1 n1 z1=>?_
 refine rldG (ds:=enc zRq) (B:=z1) rfl rfl ?_
 refine rsto (B:=Bx.mv (w:=w1)) (vs:=enc zRq) rfl rfl rfl (Enc.one _) fun w2 B2 f2 _=>?_
 refine rsto (B:=(Be.mv (w:=w1)).fr f2 hne) (vs:=[.int .i64 220]) rfl rfl rfl (zAf _) fun w3 B3 f3 _=>?_
 exact⟨rfl,rfl,B2.fr f3 (fun h=>hne h.symm),B3,((Fr.fr (Le.e (a:=w) (b:=w1))).trans (f2.mono fun i _ hi=>.inl hi)).trans (f3.mono fun i _ hi=>.inr hi)⟩
theorem zMU{d:RqD}(h:rdR s=some (d,[]))(hd:RqIs d):reqOf s=some d:=by
 unfold reqOf;rw [h];simp only;rw [if_pos hd]
theorem zNR(h:∀d t,rdR s=some (d,t)→¬RqIs d):reqOf s=none:=by
 unfold reqOf
 split
 ·rename_i x hx;rw [if_neg (h _ _ hx)]
 ·rfl
theorem zNS{t:List UInt8}{d:RqD}(h:rdR s=some (d,t))(ht:t≠[]):reqOf s=none:=by
 unfold reqOf
 split
 ·rename_i x hx;rw [h] at hx;cases hx;exact absurd rfl ht
 ·rfl
abbrev GetReq (s:List UInt8) (B:Nat) (v:Value) (w':World):Prop:=
 (∃d x,reqOf s=some d∧v=.tuple #[agg x,.int .i64 0]∧RqO B w' x d)∨(reqOf s=none∧v=.tuple #[agg zRq,.int .i64 220])
set_option maxHeartbeats 1000000 in
theorem zDo(hs:s.length≤4611686018427387904):Sp PP F.zu #[txt s,.func (.func F.qy) #[] #[]] w fun v w'=>GetReq s w.heap.size v w'∧Stp w w':=by
 refine en TBok rfl ?_
 refine ral fun bx w1 n1 z1=>ral fun be w2 n2 z2=>?_
 have hbx:=n1.b;have hsx:=n1.s;have hbe:=n2.b;have hse:=n2.s
 refine rbuild (cs:=[txt s,.int .i64 0]) rfl ?_
 refine rbx fun br w3 n3 B3=>?_
 have hbr:=n3.b
 have R3:FrB w3 br s 0:=B3
 clear B3
 have X3:Bk w3 bx (enc zRq) E.qd:=z1.mv
 have E3:Bk w3 be [.int .i64 0] E.qj:=z2.mv
 have z03:=Le.size (a:=w) (b:=w3)
 have hne:¬be=bx:=by omega
 have pan:∀{G:Nat→Value} {u:World} {x:RReq},Bk u bx (enc x) E.qd→Bk u be [.int .i64 0] E.qj→Stp w u→reqOf s=none→ev G (.tmp 4)=.pointer (some ⟨bx,0,none⟩)→ev G (.tmp 5)=.pointer (some ⟨be,0,none⟩) →
   LeaveS PP [.cell 4 E.qd,.cell 5 E.qj] G [{ target:=.fn (.func F.qk) #[.pointer (some ⟨bx,0,none⟩),.pointer (some ⟨be,0,none⟩)],args:=#[] }] (.panicking PanF) (fun v w'=>GetReq s w.heap.size v w'∧Stp w w') (fun _ _=>False) u:=by
  intro G u x X E' e hno g4 g5
  refine zBk (by simp) ⟨(zBb X E' hne).can,zAI (zBb X E' hne).calls ?_⟩
  intro en u' w' he
  cases en with
  |returned v =>
   obtain⟨h1,X',E',f'⟩:=he
   show LeaveS PP _ _ [] (settle u') _ _ w'
   rw [h1]
   refine leave_ret ?_
   show resS PP [.cell 4 _,.cell 5 _] [] G _ w'
   simp only [resS,g4,g5]
   refine rresG (B:=X') rfl ?_
   refine rres (B:=E') rfl ?_
   exact⟨.inr ⟨hno,rfl⟩,⟨Fr.st e.e f' fun i hi=>by omega⟩⟩
  |panicked c=>exact he
  |outgrown=>exact he
 have nbr:∀i,i=br→w.heap.size≤i:=by omega
 have nbx:∀i,i=bx→w.heap.size≤i:=by omega
 have nxr:¬bx=br:=by omega
 have ner:¬be=br:=by omega
 refine rcallP (zDn (b:=br) R3 hs) ?_ ?_
 ·rintro _ w4 ⟨d,A4,x,hrd,hok,rfl,O4,R4,f4⟩
  have s4:Stp w w4:=⟨Fr.st Le.e f4 nbr⟩
  have X4:=X3.fr f4 nxr
  have E4:=E3.fr f4 ner
  refine rsto (B:=X4) (vs:=enc x) rfl rfl rfl (Enc.one _) fun w5 X5 f5 _=>?_
  have X5:Bk w5 bx (enc x) E.qd:=X5
  have s5:Stp w w5:=⟨Fr.st s4.e f5 nbx⟩
  have E5:=E4.fr f5 hne
  have R5:=(Bk.fr R4 f5 (fun h=>nxr h.symm))
  have O5:=O4.2.2.2.2.2.1.frc f5 X4 (by decide)
  refine rcallP (zBM R5) ?_ ?_
  ·rintro _ w6 ⟨rfl,hA,e6⟩
   have ht:rdR s=some (d,[]):=by
    have h1:=hrd.2
    rw [List.drop_zero,hA,List.drop_length] at h1
    exact h1
   have X6:=X5.mv (w:=w6)
   refine rldG (ds:=enc x) (B:=X6) rfl (Enc.len x) ?_
   refine rsto (B:=X6) (vs:=enc x) rfl rfl rfl (Enc.one _) fun w7 X7 f7 _=>?_
   have X7:Bk w7 bx (enc x) E.qd:=X7
   have s7:Stp w w7:=⟨Fr.st Le.e f7 nbx⟩
   have E7:=(E5.mv (w:=w6)).fr f7 hne
   have O7:=(O5.up (w':=w6)).frc f7 X6 (by decide)
   refine rsto (B:=E7) (vs:=[.int .i64 0]) rfl rfl rfl (zAf _) fun w8 E8 f8 _=>?_
   have X8:=X7.fr f8 (fun h=>hne h.symm)
   have s8:Stp w w8:=⟨Fr.st s7.e f8 fun i hi=>by omega⟩
   have O8:=O7.frc f8 E7 (by decide)
   refine zBk (by simp) ⟨(zBc (bx:=bx) (be:=be) (w:=w8)).can,zAI (zBc (bx:=bx) (be:=be) (w:=w8)).calls ?_⟩
   intro en u' w' hh
   cases en with
   |returned v =>
    obtain⟨rfl,rfl⟩:=hh
    refine leave_ret ?_
    refine rresG (B:=X8) rfl ?_
    refine rres (B:=E8) rfl ?_
    exact⟨.inl ⟨d,x,zMU ht hok,rfl,O4.1,O4.2.1,O4.2.2.1,O4.2.2.2.1,O4.2.2.2.2.1,O8.mono (by omega),O4.2.2.2.2.2.2⟩,s8⟩
   |panicked c=>exact hh
   |outgrown=>exact hh
  ·rintro _ w6 ⟨rfl,hA,e6⟩
   have hne0:s.drop A4≠[]:=fun h=>by
    have h1:=congrArg List.length h
    rw [List.length_drop,List.length_nil] at h1
    have:=hrd.1
    omega
   exact pan (X5.mv (w:=w6)) (E5.mv (w:=w6)) stp (zNS (by have h1:=hrd.2;rw [List.drop_zero] at h1;exact h1) hne0) rfl rfl
 ·rintro _ w4 ⟨rfl,hno,f4⟩
  have s4:Stp w w4:=⟨Fr.st Le.e f4 nbr⟩
  exact pan (X3.fr f4 nxr) (E3.fr f4 ner) s4 (zNR hno) rfl rfl
theorem zBL(hs:s.length≤4611686018427387904):Sp PP F.pf #[txt s] w fun v w'=>GetReq s w.heap.size v w'∧Stp w w':=by
 refine en TBok rfl ?_
 refine ral fun bx w1 n1 z1=>?_
 have nbx:=n1.b
 refine rcall (zDo hs) ?_
 rintro v w2 ⟨⟨d,x,hr,rfl,O⟩|⟨hno,rfl⟩,e2⟩
 ·refine rsto (B:=z1.mv (w:=w2)) (vs:=enc x) rfl rfl rfl (Enc.one _) fun w3 X3 f3 _=>?_
  have X3:Bk w3 bx (enc x) E.qd:=X3
  refine rresG (B:=X3) rfl ?_
  exact⟨.inl ⟨d,x,hr,rfl,O.1,O.2.1,O.2.2.1,O.2.2.2.1,O.2.2.2.2.1,(O.2.2.2.2.2.1.frc f3 (z1.mv (w:=w2)) (by decide)).older,O.2.2.2.2.2.2⟩,⟨Fr.st Le.e f3 fun i hi=>by omega⟩⟩
 ·refine rsto (B:=z1.mv (w:=w2)) (vs:=enc zRq) rfl rfl rfl (Enc.one _) fun w3 X3 f3 _=>?_
  have X3:Bk w3 bx (enc zRq) E.qd:=X3
  refine rresG (B:=X3) rfl ?_
  exact⟨.inr ⟨hno,rfl⟩,⟨Fr.st Le.e f3 fun i hi=>by omega⟩⟩
theorem zJU(hs:s.length≤4611686018427387904):Sp PP F.qan #[txt s] w fun v w'=>((∃n:Nat,idOf s=some n∧v=.tuple #[.int .i64 (n:Int),.bool true])∨(idOf s=none∧v=.tuple #[.int .i64 0,.bool false]))∧Stp w w':=by
 refine en TBok rfl ?_
 refine rcall (zCl (A:=0) hs) ?_
 rintro _ w1 ⟨⟨n,A',hr,rfl⟩|⟨hno,rfl⟩,e1⟩
 ·have h1:idOf s=some n:=by have:=hr.2;rw [List.drop_zero] at this;unfold idOf;rw [this];rfl
  exact⟨.inl ⟨n,h1,rfl⟩,stp⟩
 ·have h1:idOf s=none:=by rw [List.drop_zero] at hno;unfold idOf;rw [hno];rfl
  exact⟨.inr ⟨h1,rfl⟩,stp⟩
end Go.W
namespace Go.Proofs
open Go.Shelf
def Tryz.sortI_ren:Go.Shelf.Ren:=⟨fun|53=>316|64=>121|63=>342|78=>188|79=>189|70=>367|71=>368|72=>369|73=>370|74=>371|75=>372|59=>172|76=>373|77=>374|88=>383|89=>242|90=>243|91=>384|92=>385|68=>233|96=>388|n=>n,fun|22=>37|23=>3|3=>3|51=>231|0=>0|67=>309|69=>311|4=>4|61=>303|60=>302|44=>129|5=>5|9=>9|75=>383|79=>387|83=>435|84=>436|n=>n,fun|n=>n⟩
theorem Tryz.sortI:Go.Proofs.SlLaysN.n53 Tryz.prog Tryz.sortI_ren:={
 mixed:=by kernel_rfl
 f53:=⟨Tryz.f316.name,by decide,Tryz.func316.trans (congrArg some (by kernel_rfl))⟩
 f59:=⟨Tryz.f172.name,by decide,Tryz.func172.trans (congrArg some (by kernel_rfl))⟩
 f63:=⟨Tryz.f342.name,by decide,Tryz.func342.trans (congrArg some (by kernel_rfl))⟩
 f64:=Tryz.func121.trans (congrArg some (by kernel_rfl))
 f68:=⟨Tryz.f233.name,by decide,Tryz.func233.trans (congrArg some (by kernel_rfl))⟩
 f70:=⟨Tryz.f367.name,by decide,Tryz.func367.trans (congrArg some (by kernel_rfl))⟩
 f71:=⟨Tryz.f368.name,by decide,Tryz.func368.trans (congrArg some (by kernel_rfl))⟩
 f72:=⟨Tryz.f369.name,by decide,Tryz.func369.trans (congrArg some (by kernel_rfl))⟩
 f73:=⟨Tryz.f370.name,by decide,Tryz.func370.trans (congrArg some (by kernel_rfl))⟩
 f74:=⟨Tryz.f371.name,by decide,Tryz.func371.trans (congrArg some (by kernel_rfl))⟩
 f75:=⟨Tryz.f372.name,by decide,Tryz.func372.trans (congrArg some (by kernel_rfl))⟩
 f76:=⟨Tryz.f373.name,by decide,Tryz.func373.trans (congrArg some (by kernel_rfl))⟩
 f77:=⟨Tryz.f374.name,by decide,Tryz.func374.trans (congrArg some (by kernel_rfl))⟩
 f78:=Tryz.func188.trans (congrArg some (by kernel_rfl))
 f79:=Tryz.func189.trans (congrArg some (by kernel_rfl))
 f88:=⟨Tryz.f383.name,by decide,Tryz.func383.trans (congrArg some (by kernel_rfl))⟩
 f89:=Tryz.func242.trans (congrArg some (by kernel_rfl))
 f90:=Tryz.func243.trans (congrArg some (by kernel_rfl))
 f91:=⟨Tryz.f384.name,by decide,Tryz.func384.trans (congrArg some (by kernel_rfl))⟩
 f92:=⟨Tryz.f385.name,by decide,Tryz.func385.trans (congrArg some (by kernel_rfl))⟩
 f96:=⟨Tryz.f388.name,by decide,Tryz.func388.trans (congrArg some (by kernel_rfl))⟩
 t0:=Tryz.underlying0
 a0:=Tryz.isAgg0
 z0:=Tryz.sizeOf0
 v0:=Tryz.zeroValue0
 t3:=Tryz.underlying3
 a3:=Tryz.isAgg3
 z3:=Tryz.sizeOf3
 v3:=Tryz.zeroValue3
 t4:=Tryz.underlying4
 a4:=Tryz.isAgg4
 z4:=Tryz.sizeOf4
 v4:=Tryz.zeroValue4
 t5:=Tryz.underlying5
 a5:=Tryz.isAgg5
 z5:=Tryz.sizeOf5
 v5:=Tryz.zeroValue5
 t9:=Tryz.underlying9
 a9:=Tryz.isAgg9
 z9:=Tryz.sizeOf9
 v9:=Tryz.zeroValue9
 t22:=Tryz.underlying37
 a22:=Tryz.isAgg37
 z22:=Tryz.sizeOf37
 v22:=Tryz.zeroValue37
 t23:=Tryz.underlying3
 a23:=Tryz.isAgg3
 z23:=Tryz.sizeOf3
 v23:=Tryz.zeroValue3
 t44:=Tryz.underlying129
 a44:=Tryz.isAgg129
 z44:=Tryz.sizeOf129
 v44:=Tryz.zeroValue129
 t51:=Tryz.underlying231
 a51:=Tryz.isAgg231
 z51:=Tryz.sizeOf231
 v51:=Tryz.zeroValue231
 t60:=Tryz.underlying302
 a60:=Tryz.isAgg302
 z60:=Tryz.sizeOf302
 v60:=Tryz.zeroValue302
 t61:=Tryz.underlying303
 a61:=Tryz.isAgg303
 z61:=Tryz.sizeOf303
 v61:=Tryz.zeroValue303
 t67:=Tryz.underlying309
 a67:=Tryz.isAgg309
 z67:=Tryz.sizeOf309
 v67:=Tryz.zeroValue309
 t69:=Tryz.underlying311
 a69:=Tryz.isAgg311
 z69:=Tryz.sizeOf311
 v69:=Tryz.zeroValue311
 t75:=Tryz.underlying383
 a75:=Tryz.isAgg383
 z75:=Tryz.sizeOf383
 v75:=Tryz.zeroValue383
 t79:=Tryz.underlying387
 a79:=Tryz.isAgg387
 z79:=Tryz.sizeOf387
 v79:=Tryz.zeroValue387
 t83:=Tryz.underlying435
 a83:=Tryz.isAgg435
 z83:=Tryz.sizeOf435
 v83:=Tryz.zeroValue435
 t84:=Tryz.underlying436
 a84:=Tryz.isAgg436
 z84:=Tryz.sizeOf436
 v84:=Tryz.zeroValue436 }
end Go.Proofs
namespace Go.W
open Go Go.Proofs
open Enc (enc)
set_option maxRecDepth 10000
variable {B N i j k m n n2 n3:Nat} {P:Program} {a a2 a3:Option Addr} {g:GrD} {q:QyD} {s:List UInt8} {u w w':World}
structure RPo where
 word:ByteArray
 pl:SV
instance:Enc RPo:=⟨2,fun x=>[.string x.word,.slice x.pl.a x.pl.n x.pl.c],fun _=>rfl,by intro x u hu;simp at hu;rcases hu with rfl|rfl <;> rfl,by decide⟩
instance:LawfulBEq ByteArray where
 eq_of_beq h:=(zB3 _ _).1 h
 rfl:=(zB3 _ _).2 rfl
def plOf (g:GrD) (s:ByteArray):List Int:=((List.range g.n).filter fun v=>(g.ws.getD v []).contains s).map fun v:Nat=>(v:Int)
theorem zBU{s:ByteArray}{x:Int}:x∈plOf g s↔∃v:Nat,x=v∧v<g.n∧s∈g.ws.getD v []:=by
 unfold plOf
 simp only [List.mem_map,List.mem_filter,List.mem_range,List.contains_iff_mem]
 constructor
 ·rintro⟨v,⟨h1,h2⟩,rfl⟩;exact⟨v,rfl,h1,h2⟩
 ·rintro⟨v,rfl,h1,h2⟩;exact⟨v,⟨h1,h2⟩,rfl⟩
theorem zGc(g:GrD)(s:ByteArray):(plOf g s).length≤g.n:=by
 unfold plOf
 rw [List.length_map]
 exact Nat.le_trans (List.length_filter_le _ _) (by simp)
structure PosM (w:World) (g:GrD) (ws:List ByteArray) (ps:List RPo):Prop where
 ris:ws.Pairwise ltW
 all:∀s,s∈ws↔∃l∈g.ws,s∈l
 len:ps.length=ws.length
 at':∀i (h:i<ps.length) (h':i<ws.length),ps[i].word=ws[i]∧SlF w ps[i].pl.v (plOf g ws[i])
theorem PosM.up[Le w w']{ws:List ByteArray}{ps:List RPo}(h:PosM w g ws ps):PosM w' g ws ps:=⟨h.ris,h.all,h.len,fun i h1 h2=>⟨(h.at' i h1 h2).1,(h.at' i h1 h2).2.up⟩⟩
theorem zHk{κ:Type}[DecidableEq κ](k:κ)(v:Value):∀m:List (κ×Value),(setM k v m).length≤m.length+1
 |[]=>by simp [setM]
 |(k',v')::r=>by
  unfold setM
  split
  ·simp
  ·have:=zHk k v r;simp only [List.length_cons];omega
structure SetB (w:World) (b:Nat) (m:List (Int×Value)) (f:Int→Prop):Prop where
 mp:MapB PP E.qa w b m
 bool:∀p∈m,∃x:Bool,p.2=.bool x
 has:∀n,f n↔(n,Value.bool true)∈m
 len:m.length≤1000
theorem SetB.up[Le w w']{b:Nat}{m:List (Int×Value)}{f:Int→Prop}(h:SetB w b m f):SetB w' b m f:=⟨h.mp.up,h.bool,h.has,h.len⟩
theorem SetB.look{b:Nat}{m:List (Int×Value)}{f:Int→Prop}(h:SetB w b m f)(n:Int):(f n∧(getM m n).getD (.bool false)=.bool true)∨(¬f n∧(getM m n).getD (.bool false)=.bool false):=by
 have hn:=h.mp.2
 cases hg:getM m n with
 |none =>
  refine .inr ⟨fun hf=>?_,rfl⟩
  have:=zAz hn ((h.has n).1 hf)
  rw [hg] at this;cases this
 |some v =>
  have hm:=zAS hg
  have q_:=h.bool _ hm
  obtain⟨x,hx⟩:=q_
  simp only at hx;subst hx
  cases x with
  |true=>exact .inl ⟨(h.has n).2 hm,rfl⟩
  |false =>
   refine .inr ⟨fun hf=>?_,rfl⟩
   have:=zAz hn ((h.has n).1 hf)
   rw [hg] at this;cases this
theorem zEu{c:Nat}{l:List Int}(h:SlF w (.slice a n c) l)(hn:l.length≤1000):
  Sp PP F.cx #[.slice a n c] w fun v w'=>(∃b m,v=.map (some b)∧SetB w' b m (·∈l)∧w.heap.size≤b)∧Stp w w':=by
 have q_:=h.len
 obtain rfl:=q_
 refine en TBok rfl ?_
 refine rmkNB (kt:=E.qa) (κ:=Int) rfl fun b w1 n1 M1=>?_
 have hb:=n1.lo (u:=w)
 refine cnt TBok 9 [5] 9 l.length (fun k u=>∃m,SetB u b m (·∈l.take k)∧m.length≤k∧Stp w u) rfl rfl ⟨[],⟨M1,by simp,by simp,by simp⟩,by simp,stp⟩ ?_
 rintro k g u hk ⟨m,S,hm,su⟩
 refine ite (fun hlt=>?_) (fun hge=>?_)
 ·have hka:k<l.length:=by omega
  refine rix (h.up (w':=u)) (x:=l[k]) (by simp) fun b1 o1 A1=>rload1 (A1.cell0 rfl) ?_
  refine rupdB S.mp l[k] rfl fun u2 M2 f2 _=>?_
  have hl2:=zHk l[k] (.bool true) m
  have S2:SetB u2 b (setM l[k] (.bool true) m) (·∈l.take (k+1)):=by
   refine⟨M2,fun p hp=>?_,fun x=>?_,by omega⟩
   ·obtain⟨p1,p2⟩:=p
    have q_:=(zAi S.mp.2).1 hp
    rcases q_ with ⟨_,h2⟩|⟨_,h2⟩
    ·exact⟨true,h2⟩
    ·exact S.bool _ h2
   ·rw [zAi S.mp.2,zAa hka,List.mem_append,List.mem_singleton,S.has]
    constructor
    ·rintro(h1|h1)
     ·by_cases e:x=l[k]
      ·exact .inl ⟨e,rfl⟩
      ·exact .inr ⟨e,h1⟩
     ·exact .inl ⟨h1,rfl⟩
    ·rintro(⟨h1,_⟩|⟨_,h1⟩)
     ·exact .inr h1
     ·exact .inl h1
  exact rar (by omega) ⟨rfl,hka,_,S2,by omega,⟨Fr.st su.e f2 fun i hi=>by omega⟩⟩
 ·have q_:k=l.length:=by omega
  obtain rfl:=q_
  rw [List.take_length] at S
  exact⟨⟨b,m,rfl,S,hb⟩,su⟩
set_option maxHeartbeats 1000000 in
theorem zGM{bs bo:Nat}{ms mo:List (Int×Value)}{f g:Int→Prop}(S:SetB w bs ms f)(O:SetB w bo mo g):
  Sp PP F.q7 #[.map (some bs),.map (some bo)] w fun v w'=>(∃b m,v=.map (some b)∧SetB w' b m (fun n=>f n∧g n)∧w.heap.size≤b)∧Stp w w':=by
 refine en TBok rfl ?_
 refine rmkNB (kt:=E.qa) (κ:=Int) rfl fun b w1 n1 M1=>?_
 have hb:=n1.lo (u:=w)
 have hnd:=S.mp.2
 have hlen:=S.len
 refine rnx rfl (rrangeM (S.mp.up (w':=w1)) fun r w2 nr It0 _=>?_)
 have hr:=nr.b;have hb1:=n1.b;have hs1:=n1.s
 have hrb:¬b=r:=by omega
 refine loop0G TBok 11 [6,7] (fun i u=>∃(done rest:List (Int×Value)) (m:List (Int×Value)),rest.length=i∧(done++rest).Perm ms∧SetB u b m (fun n=>(n,Value.bool true)∈done∧g n)∧m.length≤done.length∧(∀p∈m,∃v,(p.1,v)∈done)∧ItB PP E.qa u r bs rest∧Stp w u) rfl
  ⟨_,[],ms,[],rfl,.refl _,⟨M1.up,by simp,by simp,by simp⟩,by simp,by simp,It0,stp⟩ ?_
 rintro i G u ⟨done,rest,m,hi,hp,Su,hml,hmk,It,su⟩
 refine rnx rfl (rnextM It (fun hrest=>?_) fun x v rest' u2 hp2 hC f2 hsz=>?_)
 ·subst hrest
  rw [List.append_nil] at hp
  refine⟨⟨b,m,rfl,⟨Su.mp,Su.bool,fun n=>?_,Su.len⟩,hb⟩,su⟩
  rw [←Su.has,S.has,hp.mem_iff]
 ·have hxs:(x,v)∈ms:=hp.mem_iff.1 (List.mem_append_right _ (hp2.mem_iff.1 List.mem_cons_self))
  have q_:=S.bool _ hxs
  obtain⟨xb,hxb⟩:=q_
  simp only at hxb;subst hxb
  have s2:Stp w u2:=⟨Fr.st su.e f2 fun i hi=>by omega⟩
  have Su2:MapB PP E.qa u2 b m:=Su.mp.fr f2 hrb
  have hp3:(done++[(x,Value.bool xb)]++rest').Perm ms:=by
   rw [List.append_assoc];exact(List.Perm.append_left done hp2).trans hp
  have hxd:∀v,(x,v)∉done:=fun v hv=>by
   have hn2:=(hp3.map (·.1)).nodup_iff.2 hnd
   rw [List.map_append,List.map_append] at hn2
   have:=(List.nodup_append.1 (List.nodup_append.1 hn2).1).2.2 x (List.mem_map.2 ⟨_,hv,rfl⟩) x (by simp)
   exact this rfl
  have hdl:=hp3.length_eq
  simp only [List.length_append,List.length_cons,List.length_nil] at hdl
  refine rnx rfl (rentryM hC ?_)
  have fin:∀(y:Bool) (u3:World),(y=true↔xb=true∧g x)→MapB PP E.qa u3 b (setM x (.bool y) m)→Fr (fun i=>i=b) u2 u3→∃i',i'<i∧∃(done rest:List (Int×Value)) (m:List (Int×Value)),rest.length=i'∧(done++rest).Perm ms∧SetB u3 b m (fun n=>(n,Value.bool true)∈done∧g n)∧m.length≤done.length∧(∀p∈m,∃v,(p.1,v)∈done)∧ItB PP E.qa u3 r bs rest∧Stp w u3:=by
   intro y u3 hy M3 f3
   have hl3:=zHk x (.bool y) m
   have hi2:=hp2.length_eq
   rw [List.length_cons] at hi2
   refine⟨rest'.length,by omega,done++[(x,.bool xb)],rest',setM x (.bool y) m,rfl,hp3,⟨M3,fun p hp=>?_,fun n=>?_,by omega⟩,by simp;omega,fun p hp=>?_,hC.b.fr f3 (fun e=>hrb e.symm) (fun e=>by have:=S.mp.lt;omega),⟨Fr.st s2.e f3 fun i hi=>by omega⟩⟩
   ·obtain⟨p1,p2⟩:=p
    have q_:=(zAi Su.mp.2).1 hp
    rcases q_ with ⟨_,h2⟩|⟨_,h2⟩
    ·exact⟨y,h2⟩
    ·exact Su.bool _ h2
   ·rw [zAi Su.mp.2,List.mem_append,List.mem_singleton]
    constructor
    ·rintro⟨h1|h1,h2⟩
     ·refine .inr ⟨fun e=>?_,(Su.has n).1 ⟨h1,h2⟩⟩
      subst e;exact hxd _ h1
     ·injection h1 with h3 h4
      injection h4 with h4
      subst h3
      exact .inl ⟨rfl,by rw [hy.2 ⟨h4.symm,h2⟩]⟩
    ·rintro(⟨h1,h2⟩|⟨h1,h2⟩)
     ·injection h2 with h2
      subst h1
      have q_:=hy.1 h2.symm
      obtain⟨h3,h4⟩:=q_
      exact⟨.inr (by rw [h3]),h4⟩
     ·have q_:=(Su.has n).2 h2
      obtain⟨h3,h4⟩:=q_
      exact⟨.inl h3,h4⟩
   ·obtain⟨p1,p2⟩:=p
    have q_:=(zAi Su.mp.2).1 hp
    rcases q_ with ⟨h1,_⟩|⟨_,h2⟩
    ·exact⟨.bool xb,by rw [h1];simp⟩
    ·obtain⟨v,hv⟩:=hmk _ h2;exact⟨v,List.mem_append_left _ hv⟩
  cases xb with
  |true =>
   have OO:=O.up (w':=u2)
   refine rlook OO.mp.l x rfl ?_
   have q_:=OO.look x
   rcases q_ with ⟨hg,e⟩|⟨hg,e⟩
   ·rw [e]
    exact rupdB Su2 x rfl fun u3 M3 f3 _=>fin true u3 (by simp [hg]) M3 f3
   ·rw [e]
    exact rupdB Su2 x rfl fun u3 M3 f3 _=>fin false u3 (by simp [hg]) M3 f3
  |false =>
   exact rupdB Su2 x rfl fun u3 M3 f3 _=>fin false u3 (by simp) M3 f3
end Go.W
namespace Go.Proofs
open Go.Shelf
def Tryz.sortT_ren:Go.Shelf.Ren:=⟨fun|54=>59|64=>121|65=>120|78=>188|79=>189|80=>179|81=>180|82=>181|83=>182|84=>183|85=>184|61=>185|86=>186|87=>187|93=>241|89=>242|90=>243|94=>244|95=>245|69=>246|97=>292|n=>n,fun|25=>45|26=>9|3=>3|51=>231|0=>0|67=>309|69=>311|4=>4|61=>303|60=>302|44=>129|5=>5|9=>9|75=>383|79=>387|83=>435|84=>436|n=>n,fun|n=>n⟩
theorem Tryz.sortT:Go.Proofs.SlLaysN.n54 Tryz.prog Tryz.sortT_ren:={
 mixed:=by kernel_rfl
 f54:=⟨Tryz.f59.name,by decide,Tryz.func59.trans (congrArg some (by kernel_rfl))⟩
 f61:=⟨Tryz.f185.name,by decide,Tryz.func185.trans (congrArg some (by kernel_rfl))⟩
 f64:=Tryz.func121.trans (congrArg some (by kernel_rfl))
 f65:=⟨Tryz.f120.name,by decide,Tryz.func120.trans (congrArg some (by kernel_rfl))⟩
 f69:=⟨Tryz.f246.name,by decide,Tryz.func246.trans (congrArg some (by kernel_rfl))⟩
 f78:=Tryz.func188.trans (congrArg some (by kernel_rfl))
 f79:=Tryz.func189.trans (congrArg some (by kernel_rfl))
 f80:=⟨Tryz.f179.name,by decide,Tryz.func179.trans (congrArg some (by kernel_rfl))⟩
 f81:=⟨Tryz.f180.name,by decide,Tryz.func180.trans (congrArg some (by kernel_rfl))⟩
 f82:=⟨Tryz.f181.name,by decide,Tryz.func181.trans (congrArg some (by kernel_rfl))⟩
 f83:=⟨Tryz.f182.name,by decide,Tryz.func182.trans (congrArg some (by kernel_rfl))⟩
 f84:=⟨Tryz.f183.name,by decide,Tryz.func183.trans (congrArg some (by kernel_rfl))⟩
 f85:=⟨Tryz.f184.name,by decide,Tryz.func184.trans (congrArg some (by kernel_rfl))⟩
 f86:=⟨Tryz.f186.name,by decide,Tryz.func186.trans (congrArg some (by kernel_rfl))⟩
 f87:=⟨Tryz.f187.name,by decide,Tryz.func187.trans (congrArg some (by kernel_rfl))⟩
 f89:=Tryz.func242.trans (congrArg some (by kernel_rfl))
 f90:=Tryz.func243.trans (congrArg some (by kernel_rfl))
 f93:=⟨Tryz.f241.name,by decide,Tryz.func241.trans (congrArg some (by kernel_rfl))⟩
 f94:=⟨Tryz.f244.name,by decide,Tryz.func244.trans (congrArg some (by kernel_rfl))⟩
 f95:=⟨Tryz.f245.name,by decide,Tryz.func245.trans (congrArg some (by kernel_rfl))⟩
 f97:=⟨Tryz.f292.name,by decide,Tryz.func292.trans (congrArg some (by kernel_rfl))⟩
 t0:=Tryz.underlying0
 a0:=Tryz.isAgg0
 z0:=Tryz.sizeOf0
 v0:=Tryz.zeroValue0
 t3:=Tryz.underlying3
 a3:=Tryz.isAgg3
 z3:=Tryz.sizeOf3
 v3:=Tryz.zeroValue3
 t4:=Tryz.underlying4
 a4:=Tryz.isAgg4
 z4:=Tryz.sizeOf4
 v4:=Tryz.zeroValue4
 t5:=Tryz.underlying5
 a5:=Tryz.isAgg5
 z5:=Tryz.sizeOf5
 v5:=Tryz.zeroValue5
 t9:=Tryz.underlying9
 a9:=Tryz.isAgg9
 z9:=Tryz.sizeOf9
 v9:=Tryz.zeroValue9
 t25:=Tryz.underlying45
 a25:=Tryz.isAgg45
 z25:=Tryz.sizeOf45
 v25:=Tryz.zeroValue45
 t26:=Tryz.underlying9
 a26:=Tryz.isAgg9
 z26:=Tryz.sizeOf9
 v26:=Tryz.zeroValue9
 t44:=Tryz.underlying129
 a44:=Tryz.isAgg129
 z44:=Tryz.sizeOf129
 v44:=Tryz.zeroValue129
 t51:=Tryz.underlying231
 a51:=Tryz.isAgg231
 z51:=Tryz.sizeOf231
 v51:=Tryz.zeroValue231
 t60:=Tryz.underlying302
 a60:=Tryz.isAgg302
 z60:=Tryz.sizeOf302
 v60:=Tryz.zeroValue302
 t61:=Tryz.underlying303
 a61:=Tryz.isAgg303
 z61:=Tryz.sizeOf303
 v61:=Tryz.zeroValue303
 t67:=Tryz.underlying309
 a67:=Tryz.isAgg309
 z67:=Tryz.sizeOf309
 v67:=Tryz.zeroValue309
 t69:=Tryz.underlying311
 a69:=Tryz.isAgg311
 z69:=Tryz.sizeOf311
 v69:=Tryz.zeroValue311
 t75:=Tryz.underlying383
 a75:=Tryz.isAgg383
 z75:=Tryz.sizeOf383
 v75:=Tryz.zeroValue383
 t79:=Tryz.underlying387
 a79:=Tryz.isAgg387
 z79:=Tryz.sizeOf387
 v79:=Tryz.zeroValue387
 t83:=Tryz.underlying435
 a83:=Tryz.isAgg435
 z83:=Tryz.sizeOf435
 v83:=Tryz.zeroValue435
 t84:=Tryz.underlying436
 a84:=Tryz.isAgg436
 z84:=Tryz.sizeOf436
 v84:=Tryz.zeroValue436 }
end Go.Proofs
namespace Go.W
open Go Go.Proofs
open Enc (enc)
set_option maxRecDepth 10000
variable {B N i j k m n n2 n3:Nat} {P:Program} {a a2 a3:Option Addr} {g:GrD} {q:QyD} {s:List UInt8} {u w w':World}
structure RowM (B:Nat) (w:World) (bm:Nat) (m:List (ByteArray×Value)) (f:ByteArray→List Int):Prop where
 lo:B≤bm
 map:MapL PP E.qf w bm m
 rows:∀s v,(s,v)∈m→Own B E.qa w v (f s)∧f s≠[]
 empt:∀s,s∉m.map (·.1)→f s=[]
 apart:∀s v s' v',(s,v)∈m→(s',v')∈m→s≠s'→∀g,Value.blk v=some g→Value.blk v'≠some g
theorem RowM.up[Le w w']{bm:Nat}{m:List (ByteArray×Value)}{f:ByteArray→List Int}(h:RowM B w bm m f):RowM B w' bm m f:=
 ⟨h.lo,h.map.up,fun s v hv=>⟨(h.rows s v hv).1.up,(h.rows s v hv).2⟩,h.empt,h.apart⟩
theorem RowM.kept{es:List TypeId}{bm:Nat}{m:List (ByteArray×Value)}{f:ByteArray→List Int}(h:RowM B w bm m f)(F:FrT B es w w')(h1:E.qa∉es)(h2:mapK∉es):RowM B w' bm m f:=
 ⟨h.lo,h.map.kept F h2,fun s v hv=>⟨(h.rows s v hv).1.kept F h1,(h.rows s v hv).2⟩,h.empt,h.apart⟩
theorem RowM.look{bm:Nat}{m:List (ByteArray×Value)}{f:ByteArray→List Int}(h:RowM B w bm m f)(s:ByteArray):
  Own B E.qa w ((getM m s).getD (.slice none 0 0)) (f s)∧∀g,Value.blk ((getM m s).getD (.slice none 0 0))=some g→∃v0,(s,v0)∈m∧Value.blk v0=some g:=by
 cases hg:getM m s with
 |none =>
  rw [h.empt s (zC0.1 hg)]
  exact⟨Own.nil _ _ _,fun g hb=>nomatch hb⟩
 |some v =>
  have hm:=zAS hg
  exact⟨(h.rows s v hm).1,fun g hb=>⟨v,hm,hb⟩⟩
theorem RowM.push{u1:World}{bm:Nat}{m:List (ByteArray×Value)}{f:ByteArray→List Int}{s:ByteArray}{n:Int}{v':Value}(h:RowM B w bm m f)
  (O:Own B E.qa u1 v' (f s++[n]))(f1:Fr (ownD B ((getM m s).getD (.slice none 0 0))) w u1)
  (hv:Value.blk v'=Value.blk ((getM m s).getD (.slice none 0 0))∨Value.blk v'=some w.heap.size)(M:MapL PP E.qf u bm (setM s v' m))(f2:Fr (fun i=>i=bm) u1 u):
  RowM B u bm (setM s v' m) (fun s'=>if s'=s then f s'++[n] else f s')∧FrT B [E.qa,mapK] w u:=by
 have q_:=h.look s
 obtain⟨hOo,hin⟩:=q_
 have hnd:=h.map.2
 have F1:FrT B [E.qa,mapK] w u1:=hOo.wrote f1 (Nat.le_refl _) (by decide)
 have M1:MapL PP E.qf u1 bm m:=h.map.frO hOo f1
 have F2:FrT B [E.qa,mapK] u1 u:=M1.wrote f2 h.lo (by decide)
 have F2':FrT B [mapK] u1 u:=M1.wrote f2 h.lo (by decide)
 have lt:∀s2 v2,(s2,v2)∈m→∃g,Value.blk v2=some g∧g<w.heap.size:=fun s2 v2 hv2=>by
  have q_:=h.rows s2 v2 hv2
  obtain⟨hO2,hne⟩:=q_
  have q_:=hO2.lt hne
  obtain⟨g,h1,_,h2⟩:=q_
  exact⟨g,h1,h2⟩
 have nd:∀s2 v2,(s2,v2)∈m→s2≠s→∀g,Value.blk v2=some g→¬ownD B ((getM m s).getD (.slice none 0 0)) g:=fun s2 v2 hv2 hne g hg hd=>by
  have q_:=hin g hd.2.1
  obtain⟨v0,hm0,hb0⟩:=q_
  exact h.apart s2 v2 s v0 hv2 hm0 hne g hg hb0
 refine⟨⟨h.lo,M,fun s2 v2 hv2=>?_,fun s2 hs2=>?_,fun s2 v2 s3 v3 h2 h3 hne g hg hg3=>?_⟩,F1.trans F2⟩
 ·have q_:=(zAi hnd).1 hv2
  rcases q_ with ⟨rfl,rfl⟩|⟨hne,hm2⟩
  ·rw [if_pos rfl]
   exact⟨O.kept F2' (by decide),by simp⟩
  ·rw [if_neg hne]
   have q_:=h.rows s2 v2 hm2
   obtain⟨hO2,hne2⟩:=q_
   exact⟨(hO2.fr f1 fun g _ hg=>nd s2 v2 hm2 hne g hg).kept F2' (by decide),hne2⟩
 ·have hns:s2≠s:=by rintro rfl;exact hs2 ((setM_keys s2 v' m s2).2 (.inl rfl))
  rw [if_neg hns]
  exact h.empt s2 fun hm=>hs2 ((setM_keys s v' m s2).2 (.inr hm))
 ·have q_:=(zAi hnd).1 h2
  rcases q_ with ⟨rfl,rfl⟩|⟨hne2,hm2⟩
  ·have q_:=(zAi hnd).1 h3
   rcases q_ with ⟨e,_⟩|⟨hne3,hm3⟩
   ·exact hne e.symm
   ·rcases hv with hv|hv
    ·rw [hv] at hg
     have q_:=hin g hg
     obtain⟨v0,hm0,hb0⟩:=q_
     exact h.apart _ v0 s3 v3 hm0 hm3 hne g hb0 hg3
    ·rw [hv] at hg;cases hg
     have q_:=lt s3 v3 hm3
     obtain⟨g',h1,h4⟩:=q_
     rw [h1] at hg3;cases hg3;omega
  ·have q_:=(zAi hnd).1 h3
   rcases q_ with ⟨rfl,rfl⟩|⟨hne3,hm3⟩
   ·rcases hv with hv|hv
    ·rw [hv] at hg3
     have q_:=hin g hg3
     obtain⟨v0,hm0,hb0⟩:=q_
     exact h.apart s2 v2 _ v0 hm2 hm0 hne g hg hb0
    ·rw [hv] at hg3;cases hg3
     have q_:=lt s2 v2 hm2
     obtain⟨g',h1,h4⟩:=q_
     rw [h1] at hg;cases hg;omega
   ·exact h.apart s2 v2 s3 v3 hm2 hm3 hne g hg hg3
def fK (g:GrD) (k:Nat) (s:ByteArray):List Int:=((List.range k).filter fun v=>(g.ws.getD v []).contains s).map fun v:Nat=>(v:Int)
def fJ (g:GrD) (k j:Nat) (s:ByteArray):List Int:=fK g k s++if s∈(g.ws.getD k []).take j then [(k:Int)] else []
theorem fK_len(g:GrD)(k:Nat)(s:ByteArray):(fK g k s).length≤k:=by
 unfold fK
 rw [List.length_map]
 exact Nat.le_trans (List.length_filter_le _ _) (by simp)
theorem zDm(g:GrD)(k:Nat):fJ g k 0=fK g k:=by
 funext s;simp [fJ]
theorem fJ_end(h:j=(g.ws.getD k []).length):fJ g k j=fK g (k+1):=by
 funext s
 subst h
 unfold fJ fK
 rw [List.take_length,List.range_succ,List.filter_append,List.map_append]
 congr 1
 simp only [List.filter_cons,List.filter_nil,List.contains_iff_mem]
 split <;> simp
theorem zNC{l:List ByteArray}(hl:g.ws.getD k []=l)(hj:j<l.length)(hn:l.Nodup):fJ g k (j+1)=fun s=>if s=l[j] then fJ g k j s++[(k:Int)] else fJ g k j s:=by
 funext s
 unfold fJ
 rw [hl,zAa hj]
 simp only [List.mem_append,List.mem_singleton]
 by_cases e:s=l[j]
 ·rw [if_pos e,if_pos (.inr e)]
  have:s∉l.take j:=by
   rw [e,List.mem_take_iff_getElem]
   rintro⟨i,hi,he⟩
   have:=(List.getElem_inj hn).1 he
   omega
  rw [if_neg this,List.append_nil]
 ·rw [if_neg e]
  simp [e]
theorem ltW_nd{l:List ByteArray}(h:l.Pairwise ltW):l.Nodup:=by
 rw [List.nodup_iff_pairwise_ne]
 exact h.imp fun {a b} hab e=>by subst e;exact List.lt_irrefl _ hab
theorem zNL(hw:g.ws.length=g.n){s:ByteArray}:plOf g s≠[]↔∃l∈g.ws,s∈l:=by
 constructor
 ·intro h
  have q_:=List.exists_cons_of_ne_nil h
  obtain⟨x,r,e⟩:=q_
  have hx:x∈plOf g s:=by rw [e];exact List.mem_cons_self
  have q_:=zBU.1 hx
  obtain⟨v,_,hv,hs⟩:=q_
  have hv2:v<g.ws.length:=by omega
  rw [List.getD_eq_getElem?_getD,List.getElem?_eq_getElem hv2,Option.getD_some] at hs
  exact⟨_,List.getElem_mem hv2,hs⟩
 ·rintro⟨l,hl,hs⟩ h
  have q_:=List.mem_iff_getElem.1 hl
  obtain⟨v,hv,rfl⟩:=q_
  have:(v:Int)∈plOf g s:=zBU.2 ⟨v,rfl,by omega,by rw [List.getD_eq_getElem?_getD,List.getElem?_eq_getElem hv,Option.getD_some];exact hs⟩
  rw [h] at this;cases this
def MakI (g:GrD) (B bm:Nat) (k j:Nat) (v:Value) (u:World):Prop:=
 ∃m Wd,Own B E.qf u v Wd∧RowM B u bm m (fJ g k j)∧Wd.Nodup∧(∀s,s∈Wd↔fJ g k j s≠[])∧Wd.length≤8*k+j
set_option maxHeartbeats 1000000 in
theorem zGL{x:RGr}{vs:List SV}(V:GrV w x g vs)(hg:GrIs g):
  Sp PP F.dp #[agg x] w fun v w'=>(∃a c ps ws,v=.tuple #[.slice a ps.length c,.int .i64 0]∧PosM w' g ws ps∧SlF w' (.slice a ps.length c) ps∧ps.length≤2000∧Own w.heap.size E.q1 w' (.slice a ps.length c) ps∧∀i (h:i<ps.length) (h':i<ws.length),Own w.heap.size E.qa w' ps[i].pl.v (plOf g ws[i]))∧Stp w w':=by
 have hn2:=hg.ok.n2
 have hnw:=hg.nw
 have hvs:vs.length=g.ws.length:=V.rows.1
 obtain⟨xn,xe,⟨wa,wn,wc⟩⟩:=x
 have q_:vs.length=wn:=V.ws.len.symm
 obtain rfl:=q_
 have hVs:SlF w (.slice wa vs.length wc) vs:=V.ws
 have hagg:agg (⟨xn,xe,⟨wa,vs.length,wc⟩⟩:RGr)=.agg #[.int .i64 xn,.slice xe.a xe.n xe.c,.slice wa vs.length wc]:=rfl
 rw [hagg]
 refine en TBok rfl ?_
 refine rbx fun b w1 n1 B1=>?_
 refine rldG (ds:=[.int .i64 xn,.slice xe.a xe.n xe.c,.slice wa vs.length wc]) (B:=B1) rfl rfl ?_
 refine rcall (zDh (V.up (w':=w1))) ?_
 rintro _ w2 ⟨⟨rfl,_⟩|⟨rfl,h2⟩,e2⟩
 case' inr=>exact absurd hg h2
 refine rmkN (kt:=E.qf) (κ:=ByteArray) rfl fun bm w3 n3 M3=>?_
 have hbm:=n3.lo (u:=w)
 refine rld (B:=B1) rfl ?_
 have R0:RowM w.heap.size w3 bm [] (fK g 0):=⟨hbm,M3,by simp,fun s _=>rfl,by simp⟩
 have I0:MakI g w.heap.size bm 0 0 (.slice none 0 0) w3:=⟨[],[],Own.nil _ _ _,by rw [zDm];exact R0,.nil,fun s=>by rw [zDm];simp [fK],by simp⟩
 refine cnt1 TBok 20 [6,7,9] 5 20 vs.length (fun k v u=>MakI g w.heap.size bm k 0 v u∧Stp w u) rfl rfl ⟨I0,stp⟩ ?_
 rintro k v G u hk ⟨I,su⟩
 refine ite (fun hlt=>?_) (fun hge=>?_)
 ·have hka:k<vs.length:=by omega
  have hkw:k<g.ws.length:=by omega
  refine rix (hVs.up (w':=u)) (x:=vs[k]) (by simp) fun b1 o1 A1=>rload1 (A1.cell0 rfl) ?_
  have hR:SlF w vs[k].v g.ws[k]:=V.rows.2 k hka hkw
  have hlk:g.ws.getD k []=g.ws[k]:=by rw [List.getD_eq_getElem?_getD,List.getElem?_eq_getElem hkw,Option.getD_some]
  have hln:=hR.len
  have hl8:=(hg.word _ (List.getElem_mem hkw)).1
  have hnd:=ltW_nd (hg.wr _ (List.getElem_mem hkw))
  generalize hlv:g.ws[k]=l at *
  generalize hsv:vs[k]=sv at *
  obtain⟨sa,sn,sc⟩:=sv
  simp only at hln;subst hln
  refine cnt1 TBok 27 [9] 5 27 l.length (fun j v u=>MakI g w.heap.size bm k j v u∧Stp w u) rfl rfl ⟨I,su⟩ ?_
  rintro j v G2 u2 hj ⟨⟨m,Wd,OW,RM,hWn,hWm,hWl⟩,s2⟩
  refine ite (fun hlt2=>?_) (fun hge2=>?_)
  ·dsimp only at hlt2
   have hja:j<l.length:=by omega
   refine rix (hR.up (w':=u2)) (x:=l[j]) (by simp) fun b3 o3 A3=>rload1 (A3.cell0 rfl) ?_
   have hlook:=RM.look l[j]
   obtain⟨O,hin⟩:=hlook
   have O':=O
   have hsh:=O.shape
   obtain⟨oa,oc,hov⟩:=hsh
   rw [hov] at O'
   refine rlookE RM.map l[j] rfl (by exact hov) ?_
   have hfl:(fJ g k j l[j]).length≤201:=by
    unfold fJ
    rw [List.length_append]
    have:=fK_len g k l[j]
    split <;> simp <;> omega
   have hstep:=zNC hlk hja hnd
   have hw2:w.heap.size≤u2.heap.size:=Le.size (a:=w) (b:=u2)
   have fin:∀(u0 u1 u3:World) (v2 v':Value) (Wd2:List ByteArray),Own w.heap.size E.qf u0 v2 Wd2→RowM w.heap.size u0 bm m (fJ g k j)→Wd2.Nodup→(∀s,s∈Wd2↔s=l[j]∨fJ g k j s≠[])→Wd2.length≤8*k+(j+1)→Stp w u0 →
     Own w.heap.size E.qa u1 v' (fJ g k j l[j]++[(k:Int)])→Fr (ownD w.heap.size ((getM m l[j]).getD (.slice none 0 0))) u0 u1→(Value.blk v'=Value.blk ((getM m l[j]).getD (.slice none 0 0))∨Value.blk v'=some u0.heap.size) →
     MapL PP E.qf u3 bm (setM l[j] v' m)→Fr (fun i=>i=bm) u1 u3→MakI g w.heap.size bm k (j+1) v2 u3∧Stp w u3:=fun u0 u1 u3 v2 v' Wd2 O2 R2 h1 h2 h3 s0 O1 f1 hv M3 f3=>by
    have hc:=R2.push O1 f1 hv M3 f3
    rw [←hstep] at hc
    refine⟨⟨_,Wd2,O2.kept hc.2 (by decide),hc.1,h1,fun s=>?_,h3⟩,⟨FrT.st s0.e hc.2 (Nat.le_refl _)⟩⟩
    rw [h2,hstep]
    by_cases e:s=l[j]
    ·simp [e]
    ·simp [e]
   refine ite (fun hz=>?_) (fun hnz=>?_)
   ·have hz0:fJ g k j l[j]=[]:=List.eq_nil_of_length_eq_zero (by omega)
    have hnw2:l[j]∉Wd:=fun hm=>(hWm _).1 hm hz0
    refine rbs1 l[j] rfl rfl (by decide) fun b3 w3 n3 _ S3=>?_
    refine rapp1 (u:=w) ⟨rfl,rfl⟩ (OW.up (w':=w3)) S3 (by omega) fun v3 u3 OW3 f3 s3=>?_
    have RM3:RowM w.heap.size u3 bm m (fJ g k j):=(RM.up (w':=w3)).kept ((OW.up (w':=w3)).wrote f3 (Nat.le_refl _) (show E.qf∈[E.qf] by decide)) (by decide) (by decide)
    have O3:=(RM3.look l[j]).1
    have q_:∃x,x=Wd++[l[j]]:=⟨_,rfl⟩
    obtain⟨Wd3,hWd3⟩:=q_
    rw [←hWd3] at OW3
    have hN3:Wd3.Nodup:=by
     rw [hWd3,List.nodup_append]
     exact⟨hWn,by simp,fun a ha b hb e=>hnw2 (by rw [List.mem_singleton.1 hb] at e;exact e ▸ ha)⟩
    have hM3:∀s,s∈Wd3↔s=l[j]∨fJ g k j s≠[]:=fun s=>by
     rw [hWd3,List.mem_append,List.mem_singleton,hWm];exact Or.comm
    have hL3:Wd3.length≤8*k+(j+1):=by rw [hWd3];simp;omega
    refine rlook RM3.map l[j] rfl ?_
    refine rbs1 (k:Int) rfl rfl (by decide) fun b5 w5 n5 _ S5=>?_
    have h5:w.heap.size≤w5.heap.size:=Le.size (a:=w) (b:=w5)
    refine rappD ⟨rfl,rfl⟩ (O3.up (w':=w5)) S5 (by simp) h5 (by simp;omega) fun v6 w6 O6 f6 hv=>?_
    have M6:MapL PP E.qf w6 bm m:=(RM3.map.up (w':=w5)).frO (O3.up (w':=w5)) f6
    refine rupd M6 l[j] rfl fun w7 M7 f7 _=>?_
    have q7:=fin w5 w6 w7 v3 v6 Wd3 (OW3.up (w':=w5)) (RM3.up (w':=w5)) hN3 hM3 hL3 stp O6 f6 hv M7 f7
    exact rar (by omega) ⟨rfl,hja,q7.1,q7.2⟩
   ·have hne0:fJ g k j l[j]≠[]:=fun e=>hnz (by rw [e];rfl)
    have q_:∃x,x=v:=⟨_,rfl⟩
    obtain⟨v3,rfl⟩:=q_
    have q_:∃x,x=Wd:=⟨_,rfl⟩
    obtain⟨Wd3,hWd3⟩:=q_
    have OW3:=OW
    have RM3:=RM
    have O3:=O
    have hN3:=hWn
    rw [←hWd3] at OW3
    rw [←hWd3] at hN3
    have hM3:∀s,s∈Wd3↔s=l[j]∨fJ g k j s≠[]:=fun s=>by
     rw [hWd3,hWm]
     constructor
     ·exact .inr
     ·rintro(rfl|h)
      ·exact hne0
      ·exact h
    have hL3:Wd3.length≤8*k+(j+1):=by rw [hWd3];omega
    refine rlook RM3.map l[j] rfl ?_
    refine rbs1 (k:Int) rfl rfl (by decide) fun b5 w5 n5 _ S5=>?_
    have h5:w.heap.size≤w5.heap.size:=Le.size (a:=w) (b:=w5)
    refine rappD ⟨rfl,rfl⟩ (O3.up (w':=w5)) S5 (by simp) h5 (by simp;omega) fun v6 w6 O6 f6 hv=>?_
    have M6:MapL PP E.qf w6 bm m:=(RM3.map.up (w':=w5)).frO (O3.up (w':=w5)) f6
    refine rupd M6 l[j] rfl fun w7 M7 f7 _=>?_
    have q7:=fin w5 w6 w7 v3 v6 Wd3 (OW3.up (w':=w5)) (RM3.up (w':=w5)) hN3 hM3 hL3 stp O6 f6 hv M7 f7
    exact rar (by omega) ⟨rfl,hja,q7.1,q7.2⟩
  ·dsimp only at hge2
   have q_:j=l.length:=by omega
   obtain rfl:=q_
   rw [fJ_end (by rw [hlk])] at RM hWm
   exact rar (by omega) ⟨rfl,hka,⟨m,Wd,OW,by rw [zDm];exact RM,hWn,fun s=>by rw [zDm];exact hWm s,by omega⟩,s2⟩
 ·have q_:k=vs.length:=by omega
  obtain rfl:=q_
  obtain⟨m,Wd,OW,RM,hWn,hWm,hWl⟩:=I
  rw [zDm] at RM hWm
  rw [show vs.length=g.n by omega] at RM hWm
  refine rcall (zM6 Tryz.sortT (f:=F.zt) rfl OW (by omega)) ?_
  rintro _ u2 ⟨rfl,Ws,hp,hs,OS,f2⟩
  have RM2:RowM w.heap.size u2 bm m (fK g g.n):=RM.kept (OW.wrote f2 (Nat.le_refl _) (show E.qf∈[E.qf] by decide)) (by decide) (by decide)
  have s2:Stw w u u2:=zAy f2
  have hWs:Ws.Nodup:=hp.nodup_iff.2 hWn
  have hl2:=hp.length_eq
  have P0:(∀s,s∈Ws↔∃l∈g.ws,s∈l):=fun s=>by rw [hp.mem_iff,hWm,←zNL hg.nw];rfl
  have hrs:Ws.Pairwise ltW:=by
   rw [List.nodup_iff_pairwise_ne] at hWs
   exact(hs.and hWs).imp fun {a b} ⟨h1,h2⟩=>by
    have q_:=zHP a b
    rcases q_ with h|h|h
    ·exact h
    ·exact absurd h h2
    ·exact absurd h1 (List.not_le.2 h)
  have q_:=OS.shape
  obtain⟨wsa,wsc,rfl⟩:=q_
  refine cnt1 TBok 54 [12] 10 54 Ws.length (fun k v u=>∃ps:List RPo,Own w.heap.size E.q1 u v ps∧ps.length=k∧(∀i (h:i<ps.length) (h':i<Ws.length),ps[i].word=Ws[i]∧ps[i].pl.v=(getM m Ws[i]).getD (.slice none 0 0))∧RowM w.heap.size u bm m (fK g g.n)∧Own w.heap.size E.qf u (.slice wsa Ws.length wsc) Ws∧Stp w u) rfl rfl
   ⟨[],Own.nil _ _ _,rfl,by simp,RM2,OS,stp⟩ ?_
  rintro k v G3 u3 hk3 ⟨ps,OP,hpl,hps,RM3,OS3,s3⟩
  refine ite (fun hlt3=>?_) (fun hge3=>?_)
  ·have hka:k<Ws.length:=by omega
   refine rix OS3.sl (x:=Ws[k]) (by simp) fun b3 o3 A3=>rload1 (A3.cell0 rfl) ?_
   have hlook:=RM3.look Ws[k]
   obtain⟨O,hin⟩:=hlook
   have hsh:=O.shape
   obtain⟨oa,oc,hov⟩:=hsh
   refine rlookE RM3.map Ws[k] rfl (by exact hov) ?_
   refine rbuild (cs:=enc (⟨Ws[k],⟨oa,(fK g g.n Ws[k]).length,oc⟩⟩:RPo)) rfl ?_
   refine rbs1 (⟨Ws[k],⟨oa,(fK g g.n Ws[k]).length,oc⟩⟩:RPo) rfl rfl (by decide) fun b5 w5 n5 _ S5=>?_
   refine rapp1 (u:=w) ⟨rfl,rfl⟩ (OP.up (w':=w5)) S5 (by omega) fun v6 w6 O6 f6 s6=>?_
   have F6:FrT w.heap.size [E.q1] w5 w6:=(OP.up (w':=w5)).wrote f6 (Nat.le_refl _) (by decide)
   have hps6:∀i (h:i<(ps++[(⟨Ws[k],⟨oa,(fK g g.n Ws[k]).length,oc⟩⟩:RPo)]).length) (h':i<Ws.length),(ps++[(⟨Ws[k],⟨oa,(fK g g.n Ws[k]).length,oc⟩⟩:RPo)])[i].word=Ws[i]∧(ps++[(⟨Ws[k],⟨oa,(fK g g.n Ws[k]).length,oc⟩⟩:RPo)])[i].pl.v=(getM m Ws[i]).getD (.slice none 0 0):=fun i h h'=>by
    by_cases hi:i<ps.length
    ·rw [List.getElem_append_left hi];exact hps i hi h'
    ·have h3:i=k:=by simp at h;omega
     subst h3
     rw [List.getElem_append_right (by omega)]
     simp only [hpl,Nat.sub_self,List.getElem_cons_zero]
     exact⟨trivial,hov.symm⟩
   exact rar (by omega) ⟨rfl,hka,_,O6,by simp [hpl],hps6,(RM3.up (w':=w5)).kept F6 (by decide) (by decide),(OS3.up (w':=w5)).kept F6 (by decide),stp⟩
  ·have q_:k=Ws.length:=by omega
   obtain rfl:=q_
   have q_:=OP.shape
   obtain⟨pa,pc,rfl⟩:=q_
   have hO:∀i (h:i<ps.length) (h':i<Ws.length),Own w.heap.size E.qa u3 ps[i].pl.v (plOf g Ws[i]):=fun i h h'=>by
    rw [(hps i h h').2];exact(RM3.look Ws[i]).1
   exact⟨⟨pa,pc,ps,Ws,rfl,⟨hrs,P0,hpl,fun i h h'=>⟨(hps i h h').1,(hO i h h').sl⟩⟩,OP.sl,by omega,OP,hO⟩,s3⟩
theorem zLo:∀{a b:List Int},a.Pairwise (· < ·)→b.Pairwise (· < ·)→(∀x,x∈a↔x∈b)→a=b:=by
 intro a b ha hb h
 have hna:a.Nodup:=by rw [List.nodup_iff_pairwise_ne];exact ha.imp fun h=>by omega
 have hnb:b.Nodup:=by rw [List.nodup_iff_pairwise_ne];exact hb.imp fun h=>by omega
 have hp:=(List.perm_ext_iff_of_nodup hna hnb).2 h
 exact hp.eq_of_pairwise (fun x y _ _ h1 h2=>by omega) (ha.imp fun h=>Int.le_of_lt h) (hb.imp fun h=>Int.le_of_lt h)
def isT:Value→Bool
 |.bool true=>true
 |_=>false
theorem zNG{v:Value}:isT v=true↔v=.bool true:=by
 unfold isT;split <;> simp_all
set_option maxHeartbeats 1000000 in
theorem zFx{bs:Nat}{ms:List (Int×Value)}{f:Int→Prop}(S:SetB w bs ms f):
  Sp PP F.z2 #[.map (some bs)] w fun v w'=>(∃L:List Int,L.Pairwise (· < ·)∧(∀n,n∈L↔f n)∧Own w.heap.size E.qa w' v L)∧Stp w w':=by
 have hnd:=S.mp.2
 have hlen:=S.len
 refine en TBok rfl ?_
 refine rnx rfl (rrangeM S.mp fun r w2 nr It0 _=>?_)
 have hr:=nr.b
 refine loop1G TBok 8 [4,5] 3 (fun i v u=>∃(done rest:List (Int×Value)) (L:List Int),rest.length=i∧(done++rest).Perm ms∧L=(done.filter fun p=>isT p.2).map (·.1)∧Own w.heap.size E.qa u v L∧ItB PP E.qa u r bs rest∧Stp w u) rfl
  ⟨_,[],ms,[],rfl,.refl _,rfl,Own.nil _ _ _,It0,stp⟩ ?_
 rintro i vl G u ⟨done,rest,L,hi,hp,rfl,O,It,su⟩
 have hdl:=hp.length_eq
 rw [List.length_append] at hdl
 have hLl:((done.filter fun p=>isT p.2).map (·.1)).length≤done.length:=by rw [List.length_map];exact List.length_filter_le _ _
 refine rnx rfl (rnextM It (fun hrest=>?_) fun x v rest' u2 hp2 hC f2 hsz=>?_)
 ·subst hrest
  rw [List.append_nil] at hp
  refine rcall (zM5 Tryz.sortI (f:=F.p0) rfl O (by omega)) ?_
  rintro _ u2 ⟨rfl,O2,f2⟩
  have s2:Stw w u u2:=zAy f2
  refine⟨⟨_,?_,fun n=>?_,O2⟩,stp⟩
  ·have hr1:=zL7 ((done.filter fun p=>isT p.2).map (·.1))
   have hp1:=zH3 ((done.filter fun p=>isT p.2).map (·.1))
   have hn1:((done.filter fun p=>isT p.2).map (·.1)).Nodup:=by
    have h1:(done.map (·.1)).Nodup:=(hp.map _).nodup_iff.2 hnd
    exact h1.sublist ((List.filter_sublist ..).map _)
   have hn2:=hp1.nodup_iff.2 hn1
   rw [List.nodup_iff_pairwise_ne] at hn2
   exact(hr1.and hn2).imp fun {a b} ⟨g1,g2⟩=>by omega
  ·rw [(zH3 _).mem_iff,S.has,←hp.mem_iff,List.mem_map]
   constructor
   ·rintro⟨⟨p1,p2⟩,hp1,rfl⟩
    have q_:=List.mem_filter.1 hp1
    obtain⟨h1,h2⟩:=q_
    rw [←zNG.1 h2];exact h1
   ·intro h
    exact⟨_,List.mem_filter.2 ⟨h,rfl⟩,rfl⟩
 ·have hxs:(x,v)∈ms:=hp.mem_iff.1 (List.mem_append_right _ (hp2.mem_iff.1 List.mem_cons_self))
  have q_:=S.bool _ hxs
  obtain⟨xb,hxb⟩:=q_
  simp only at hxb;subst hxb
  have s2:Stp w u2:=⟨Fr.st su.e f2 fun i hi=>by omega⟩
  have hp3:(done++[(x,Value.bool xb)]++rest').Perm ms:=by
   rw [List.append_assoc];exact(List.Perm.append_left done hp2).trans hp
  have hi2:=hp2.length_eq
  rw [List.length_cons] at hi2
  have O2:Own w.heap.size E.qa u2 vl ((done.filter fun p=>isT p.2).map (·.1)):=O.itq (It.itq f2 (Nat.le_refl r))
  refine rnx rfl (rentryM hC ?_)
  cases xb with
  |true =>
   refine rbs1 x rfl rfl (by decide) fun b6 u6 e6 _ S6=>?_
   refine rapp1 (u:=w) ⟨rfl,rfl⟩ (O2.up (w':=u6)) S6 (by omega) fun v7 u7 O7 f7 s7=>?_
   have e7:((done++[(x,Value.bool true)]).filter fun p=>isT p.2).map (·.1)=(done.filter fun p=>isT p.2).map (·.1)++[x]:=by
    rw [List.filter_append,List.map_append];simp [isT]
   rw [←e7] at O7
   have It7:=hC.b.up (w':=u6)
   have It8:=It7.fro (O2.up (w':=u6)) f7
   have fin:∃(done rest0:List (Int×Value)) (L:List Int),rest0.length=rest'.length∧(done++rest0).Perm ms∧L=(done.filter fun p=>isT p.2).map (·.1)∧Own w.heap.size E.qa u7 v7 L∧ItB PP E.qa u7 r bs rest0∧Stp w u7:=⟨done++[(x,Value.bool true)],rest',_,rfl,hp3,rfl,O7,It8,stp⟩
   exact⟨rest'.length,by omega,fin⟩
  |false =>
   have e7:((done++[(x,Value.bool false)]).filter fun p=>isT p.2).map (·.1)=(done.filter fun p=>isT p.2).map (·.1):=by
    rw [List.filter_append,List.map_append];simp [isT]
   rw [←e7] at O2
   have fin:∃(done rest0:List (Int×Value)) (L:List Int),rest0.length=rest'.length∧(done++rest0).Perm ms∧L=(done.filter fun p=>isT p.2).map (·.1)∧Own w.heap.size E.qa u2 vl L∧ItB PP E.qa u2 r bs rest0∧Stp w u2:=⟨done++[(x,Value.bool false)],rest',_,rfl,hp3,rfl,O2,hC.b,s2⟩
   exact⟨rest'.length,by omega,fin⟩
theorem zLW(hw:g.ws.length=g.n){s:ByteArray}(h:¬∃l∈g.ws,s∈l):plOf g s=[]:=by
 cases hp:plOf g s with
 |nil=>rfl
 |cons x r =>
  have:x∈plOf g s:=by rw [hp];exact List.mem_cons_self
  have q_:=zBU.1 this
  obtain⟨v,_,hv,hs⟩:=q_
  exfalso
  have hvl:v<g.ws.length:=by omega
  rw [List.getD_eq_getElem?_getD,List.getElem?_eq_getElem hvl] at hs
  exact h ⟨_,List.getElem_mem hvl,hs⟩
theorem zC9{c:Nat}{ws:List ByteArray}{ps:List RPo}{s:ByteArray}(h:SlF w (.slice a n c) ps)(M:PosM w g ws ps)(hg:GrIs g)(hn:ps.length≤100000):
  Sp PP F.dz #[.slice a n c,.string s] w fun v w'=>Own w.heap.size E.qa w' v (plOf g s)∧Stp w w':=by
 have hn2:=hg.ok.n2
 have q_:=h.len
 obtain rfl:=q_
 have hpl:=zGc g s
 refine en TBok rfl ?_
 refine cnt TBok 9 [4,6] 9 ps.length (fun k u=>(∀x∈ws.take k,x≠s)∧Stp w u) rfl rfl ⟨by simp,stp⟩ ?_
 rintro k G u hk ⟨hall,e⟩
 refine ite (fun hlt=>?_) (fun hge=>?_)
 ·have hka:k<ps.length:=by omega
  have hkw:k<ws.length:=by have:=M.len;omega
  have q_:=M.at' k hka hkw
  obtain⟨hw1,hs1⟩:=q_
  refine rix (h.up (w':=u)) (x:=ps[k]) (by simp) fun b1 o1 A1=>rloadA A1 rfl ?_
  refine ral fun b2 u2 n2 z2=>?_
  refine rsto (B:=z2) (vs:=enc ps[k]) rfl rfl rfl (Enc.one _) fun u3 X3 f3 _=>?_
  have X3:Bk u3 b2 (enc ps[k]) E.q1:=X3
  have s3:Stp u u3:=⟨Fr.st Le.e f3 fun i hi=>by subst hi;exact n2.lo⟩
  refine rld (B:=X3) rfl ?_
  refine rseq (fun h1=>?_) (fun h1=>?_)
  ·rw [hw1] at h1
   rw [h1] at hs1
   refine rld (B:=X3) rfl ?_
   refine rcall (zA6 (hs1.up (w':=u3)) (by omega)) ?_
   rintro v u4 ⟨O4,e4⟩
   exact⟨O4.mono (Le.size (a:=w) (b:=u3)),stp⟩
  ·refine rar (by omega) ⟨rfl,hka,fun t ht=>?_,stp⟩
   rw [zAa hkw] at ht
   have q_:=List.mem_append.1 ht
   rcases q_ with ht|ht
   ·exact hall t ht
   ·rw [List.mem_singleton.1 ht,←hw1];exact h1
 ·have q_:k=ps.length:=by omega
  obtain rfl:=q_
  rw [M.len,List.take_length] at hall
  rw [zLW hg.nw fun hex=>hall s ((M.all s).2 hex) rfl]
  exact⟨Own.nil _ _ _,e⟩
theorem zGd{v:Value}:Sp PP F.qr #[v] w fun r w'=>r=.func (.func F.q7) #[v] #[]∧w'=w:=by
 refine en TBok rfl ?_
 exact⟨rfl,rfl⟩
theorem zE3{tw:TypeId}{c bw bl:Nat}{ws:List ByteArray}{ps:List RPo}{s:ByteArray}{bs:Nat}{ms:List (Int×Value)}{f:Int→Prop}(h:SlF w (.slice a ps.length c) ps)(M:PosM w g ws ps)(hg:GrIs g)(hn:ps.length≤100000)
  (W:Bk w bw [.func (.func F.qr) #[] #[]] tw)(L:Bk w bl [.slice a ps.length c] E.q3)(S:SetB w bs ms f):
  Sp PP F.yg #[.map (some bs),.string s,.pointer (some ⟨bw,0,none⟩),.pointer (some ⟨bl,0,none⟩)] w fun v w'=>(∃b m,v=.map (some b)∧SetB w' b m (fun n=>f n∧n∈plOf g s))∧Stp w w':=by
 have hpl:=zGc g s
 have hn2:=hg.ok.n2
 refine en TBok rfl ?_
 refine drawR TBok mixed (fun _=>False) [0,1,3,4,2,5,6,7,8] (by kernel_rfl) fun w1 e1 _=>?_
 refine tld (B:=W) rfl not_false (tld (B:=L) rfl not_false ?_)
 refine rcall zGd ?_
 rintro _ w1' ⟨rfl,rfl⟩
 refine⟨Fr.refl _ _,?_⟩
 refine rcall (zC9 (s:=s) (h.up (w':=w1')) (M.up (w':=w1')) hg hn) ?_
 rintro v w2 ⟨O2,e2⟩
 refine⟨e2.e,?_⟩
 have q_:=O2.shape
 obtain⟨oa,oc,rfl⟩:=q_
 refine rcall (zEu O2.sl (by omega)) ?_
 rintro _ w3 ⟨⟨b3,m3,rfl,S3,hb3⟩,e3⟩
 refine⟨e3.e,?_⟩
 refine rcall (zGM (S.up (w':=w3)) S3) ?_
 rintro _ w4 ⟨⟨b4,m4,rfl,S4,hb4⟩,e4⟩
 refine⟨e4.e,?_⟩
 exact⟨⟨b4,m4,rfl,S4⟩,stp⟩
theorem zFw{tw:TypeId}{c c2 bw bl:Nat}{ws:List ByteArray}{ps:List RPo}{l:List ByteArray}{bs:Nat}{ms:List (Int×Value)}{f:Int→Prop}(h:SlF w (.slice a ps.length c) ps)(M:PosM w g ws ps)(hg:GrIs g)(hn:ps.length≤100000)
  (W:Bk w bw [.func (.func F.qr) #[] #[]] tw)(L:Bk w bl [.slice a ps.length c] E.q3)(S:SetB w bs ms f)(hl:SlF w (.slice a2 n2 c2) l)(hln:l.length≤1000000):
  Sp PP F.y5 #[.map (some bs),.slice a2 n2 c2,.func (.func F.yg) #[] #[.pointer (some ⟨bw,0,none⟩),.pointer (some ⟨bl,0,none⟩)]] w fun v w'=>(∃b m,v=.map (some b)∧SetB w' b m (fun n=>f n∧∀s∈l,n∈plOf g s))∧Stp w w':=by
 have q_:=hl.len
 obtain rfl:=q_
 refine en TBok rfl ?_
 refine cnt1 TBok 11 [8] 0 11 l.length (fun k v u=>(∃b m,v=.map (some b)∧SetB u b m (fun n=>f n∧∀s∈l.take k,n∈plOf g s))∧Stp w u) rfl rfl ⟨⟨bs,ms,rfl,by simpa using S⟩,stp⟩ ?_
 rintro k v G u hk ⟨⟨b,m,rfl,Su⟩,su⟩
 refine ite (fun hlt=>?_) (fun hge=>?_)
 ·have hka:k<l.length:=by omega
  refine rix (hl.up (w':=u)) (x:=l[k]) (by simp) fun b1 o1 A1=>rload1 (A1.cell0 rfl) ?_
  refine rcall (zE3 (s:=l[k]) (h.up (w':=u)) (M.up (w':=u)) hg hn (W.mv (w:=u)) (L.mv (w:=u)) Su) ?_
  rintro _ u2 ⟨⟨b2,m2,rfl,S2⟩,e2⟩
  have S3:SetB u2 b2 m2 (fun n=>f n∧∀s∈l.take (k+1),n∈plOf g s):=⟨S2.mp,S2.bool,fun n=>by
   rw [←S2.has,zAa hka]
   simp only [List.mem_append,List.mem_singleton]
   constructor
   ·rintro⟨h1,h2⟩
    exact⟨⟨h1,fun s hs=>h2 s (.inl hs)⟩,h2 _ (.inr rfl)⟩
   ·rintro⟨⟨h1,h2⟩,h3⟩
    refine⟨h1,fun s hs=>?_⟩
    rcases hs with hs|rfl
    ·exact h2 s hs
    ·exact h3,S2.len⟩
  exact rar (by omega) ⟨rfl,hka,⟨b2,m2,rfl,S3⟩,stp⟩
 ·have q_:k=l.length:=by omega
  obtain rfl:=q_
  rw [List.take_length] at Su
  exact⟨⟨b,m,rfl,Su⟩,su⟩
theorem zLl{q:List ByteArray}{L:List Int}(hL:L.Pairwise (· < ·))(hq:q≠[])(hm:∀n,n∈L↔∀s∈q,n∈plOf g s):L=placesL g q:=by
 refine zLo hL ?_ fun n=>?_
 ·unfold placesL
  rw [List.pairwise_map]
  exact(List.pairwise_lt_range.filter _).imp fun h=>by omega
 ·rw [hm]
  unfold placesL
  simp only [List.mem_map,List.mem_filter,List.mem_range,List.all_eq_true,List.contains_iff_mem]
  constructor
  ·intro h
   have q_:=List.exists_cons_of_ne_nil hq
   obtain⟨s0,r,rfl⟩:=q_
   have q_:=zBU.1 (h s0 List.mem_cons_self)
   obtain⟨v,rfl,hv,_⟩:=q_
   refine⟨v,⟨hv,fun s hs=>?_⟩,rfl⟩
   have q_:=zBU.1 (h s hs)
   obtain⟨v',e,_,h2⟩:=q_
   have q_:v=v':=by omega
   obtain rfl:=q_
   exact h2
  ·rintro⟨v,⟨hv,h2⟩,rfl⟩ s hs
   exact zBU.2 ⟨v,rfl,hv,h2 s hs⟩
theorem zHc{c c2:Nat}{ws:List ByteArray}{ps:List RPo}{q:List ByteArray}(h:SlF w (.slice a n c) ps)(M:PosM w g ws ps)(hg:GrIs g)(hn:ps.length≤100000)(hq:SlF w (.slice a2 n2 c2) q)(hq1:q≠[])(hqn:q.length≤1000000):
  Sp PP F.d5 #[.slice a n c,.slice a2 n2 c2] w fun v w'=>(∃v',v=.tuple #[v',.int .i64 0]∧Own w.heap.size E.qa w' v' (placesL g q))∧Stp w w':=by
 have q_:=h.len
 obtain rfl:=q_
 have q_:=hq.len
 obtain rfl:=q_
 have hn2:=hg.ok.n2
 have hq0:0<q.length:=List.length_pos_iff.2 hq1
 have hF:Sp PP F.dk #[.slice a ps.length c,.slice a2 q.length c2,.func (.func F.qr) #[] #[]] w fun v w'=>(∃v',v=.tuple #[v',.int .i64 0]∧Own w.heap.size E.qa w' v' (placesL g q))∧Stp w w':=by
  refine en TBok rfl ?_
  refine rbx fun bl w1 n1 B1=>rbx fun bw w2 n2 B2=>?_
  refine ite (fun h=>absurd h (by first|omega|decide|(dsimp only <;> omega))) (fun _=>?_)
  have B1:Bk w1 bl [.slice a ps.length c] E.q3:=B1
  have hpl:=zGc g q[0]
  refine drawR TBok mixed (fun _=>False) [0,1,2,3,6,7,8,4,5,9,10] (by kernel_rfl) fun w3 e3 _=>?_
  refine tld (B:=B1) rfl not_false ?_
  refine tix (i:=0) (hq.up (w':=w3)) (x:=q[0]) (by simp [hq0]) fun b4 o4 A4 _=>tload1 (A4.cell0 rfl) not_false ?_
  refine tsl (some 1) none (hq.up (w':=w3)) (by simp;omega) (by simp) fun a5 c5 S5=>?_
  refine rcall (zC9 (s:=q[0]) (h.up (w':=w3)) (M.up (w':=w3)) hg hn) ?_
  rintro v w4 ⟨O4,e4⟩
  refine⟨e4.e,?_⟩
  have q_:=O4.shape
  obtain⟨oa,oc,rfl⟩:=q_
  refine rcall (zEu O4.sl (by omega)) ?_
  rintro _ w5 ⟨⟨b5,m5,rfl,S6,hb5⟩,e5⟩
  refine⟨e5.e,?_⟩
  refine rcall (zFw (h.up (w':=w5)) (M.up (w':=w5)) hg hn (B2.mv (w:=w5)) (B1.mv (w:=w5)) S6 (S5.up (w':=w5)) (by simp;omega)) ?_
  rintro _ w6 ⟨⟨b6,m6,rfl,S7⟩,e6⟩
  refine⟨e6.e,?_⟩
  refine rcall (zFx S7) ?_
  rintro v w7 ⟨⟨L,hL,hm,O7⟩,e7⟩
  have e8:L=placesL g q:=zLl hL hq1 fun n=>by
   rw [hm,zKP]
   have e9:q=q[0]::q.drop 1:=by
    cases q with
    |nil=>simp at hq0
    |cons x r=>rfl
   constructor
   ·rintro⟨h1,h2⟩ s hs
    rw [e9] at hs
    have q_:=List.mem_cons.1 hs
    rcases q_ with rfl|hs
    ·exact h1
    ·exact h2 s hs
   ·intro h
    exact⟨h _ (List.getElem_mem hq0),fun s hs=>h s (List.mem_of_mem_drop hs)⟩
  rw [e8] at O7
  exact⟨⟨v,rfl,O7.mono (Le.size (a:=w) (b:=w6))⟩,stp⟩
 refine en TBok rfl ?_
 refine rcall hF ?_
 rintro _ w2 ⟨⟨v',rfl,O2⟩,e2⟩
 exact⟨⟨v',rfl,O2⟩,stp⟩
structure LeaM (S:List StD) (dir:Int) (m:List (Int×Value)):Prop where
 val:∀p∈m,∃x∈S,x.key.dir=dir∧p.1=x.key.v∧p.2=.int .i64 x.d∧∀y∈S,y.key.dir=dir→y.key.v=x.key.v→x.d≤y.d
 all:∀x∈S,x.key.dir=dir→∃v,(x.key.v,v)∈m
theorem LeaM.skip{S:List StD}{dir:Int}{m:List (Int×Value)}{x:StD}(h:LeaM S dir m)(hx:x.key.dir≠dir):LeaM (S++[x]) dir m:=by
 refine⟨fun p hp=>?_,fun y hy hd=>?_⟩
 ·have q_:=h.val p hp
  obtain⟨z,h1,h2,h3,h4,h5⟩:=q_
  refine⟨z,List.mem_append_left _ h1,h2,h3,h4,fun y hy hd hv=>?_⟩
  have q_:=List.mem_append.1 hy
  rcases q_ with hy|hy
  ·exact h5 y hy hd hv
  ·rw [List.mem_singleton.1 hy] at hd;exact absurd hd hx
 ·have q_:=List.mem_append.1 hy
  rcases q_ with hy|hy
  ·exact h.all y hy hd
  ·rw [List.mem_singleton.1 hy] at hd;exact absurd hd hx
theorem LeaM.set{S:List StD}{dir:Int}{m:List (Int×Value)}{x:StD}(h:LeaM S dir m)(hn:(m.map (·.1)).Nodup)(hx:x.key.dir=dir)(hle:∀y∈S,y.key.dir=dir→y.key.v=x.key.v→x.d≤y.d):LeaM (S++[x]) dir (setM x.key.v (.int .i64 x.d) m):=by
 refine⟨fun p hp=>?_,fun y hy hd=>?_⟩
 ·obtain⟨p1,p2⟩:=p
  have q_:=(zAi hn).1 hp
  rcases q_ with ⟨h1,h2⟩|⟨h1,h2⟩
  ·subst h1;subst h2
   refine⟨x,by simp,hx,rfl,rfl,fun y hy hd hv=>?_⟩
   have q_:=List.mem_append.1 hy
   rcases q_ with hy|hy
   ·exact hle y hy hd hv
   ·rw [List.mem_singleton.1 hy];exact Int.le_refl _
  ·have q_:=h.val _ h2
   obtain⟨z,h3,h4,h5,h6,h7⟩:=q_
   refine⟨z,List.mem_append_left _ h3,h4,h5,h6,fun y hy hd hv=>?_⟩
   have q_:=List.mem_append.1 hy
   rcases q_ with hy|hy
   ·exact h7 y hy hd hv
   ·rw [List.mem_singleton.1 hy] at hv
    exact absurd (h5.trans hv.symm) h1
 ·have q_:=List.mem_append.1 hy
  rcases q_ with hy|hy
  ·have q_:=h.all y hy hd
   obtain⟨v,hv⟩:=q_
   by_cases e:y.key.v=x.key.v
   ·exact⟨_,(zAi hn).2 (.inl ⟨e,rfl⟩)⟩
   ·exact⟨v,(zAi hn).2 (.inr ⟨e,hv⟩)⟩
  ·rw [List.mem_singleton.1 hy]
   exact⟨_,(zAi hn).2 (.inl ⟨rfl,rfl⟩)⟩
theorem LeaM.keep{S:List StD}{dir:Int}{m:List (Int×Value)}{x z:StD}(h:LeaM S dir m)(hz:z∈S)(hzd:z.key.dir=dir)(hzv:z.key.v=x.key.v)(hle:¬x.d<z.d):LeaM (S++[x]) dir m:=by
 refine⟨fun p hp=>?_,fun y hy hd=>?_⟩
 ·have q_:=h.val p hp
  obtain⟨u,h1,h2,h3,h4,h5⟩:=q_
  refine⟨u,List.mem_append_left _ h1,h2,h3,h4,fun y hy hd hv=>?_⟩
  have q_:=List.mem_append.1 hy
  rcases q_ with hy|hy
  ·exact h5 y hy hd hv
  ·rw [List.mem_singleton.1 hy] at hv ⊢
   have:=h5 z hz hzd (hzv.trans hv)
   omega
 ·have q_:=List.mem_append.1 hy
  rcases q_ with hy|hy
  ·exact h.all y hy hd
  ·rw [List.mem_singleton.1 hy,←hzv];exact h.all z hz hzd
set_option maxHeartbeats 1000000 in
theorem zCe{c:Nat}{S:List StD}{dir:Int}(h:SlF w (.slice a n c) S)(hn:S.length≤100000):
  Sp PP F.cv #[.slice a n c,.int .i64 dir] w fun v w'=>(∃b m,v=.map (some b)∧MapB PP E.qa w' b m∧LeaM S dir m∧m.length≤S.length∧w.heap.size≤b)∧Stp w w':=by
 have q_:=h.len
 obtain rfl:=q_
 refine en TBok rfl ?_
 refine rmkNB (kt:=E.qa) (κ:=Int) rfl fun bm w1 n1 M1=>?_
 have hb:=n1.lo (u:=w)
 refine cnt TBok 13 [7,8,9] 13 S.length (fun k u=>∃m,MapB PP E.qa u bm m∧LeaM (S.take k) dir m∧m.length≤k∧Stp w u) rfl rfl ⟨[],M1,⟨by simp,by simp⟩,by simp,stp⟩ ?_
 rintro k g u hk ⟨m,M,C,hm,su⟩
 have hnd:=M.2
 refine ite (fun hlt=>?_) (fun hge=>?_)
 ·have hka:k<S.length:=by omega
  have hlk:S.take (k+1)=S.take k++[S[k]]:=zAa hka
  refine rix (h.up (w':=u)) (x:=S[k]) (by simp) fun b1 o1 A1=>rloadA A1 rfl ?_
  refine ral fun b2 u2 n2 z2=>?_
  have hz2:=n2.b;have hs2:=n2.s
  refine rsto (B:=z2) (vs:=enc S[k]) rfl rfl rfl (Enc.one _) fun u3 X3 f3 _=>?_
  have X3:Bk u3 b2 (enc S[k]) E.qg:=X3
  have hmu:=M.lt
  have s3:Stp u u3:=⟨Fr.st (Le.e (a:=u) (b:=u2)) f3 fun i hi=>by omega⟩
  have M3:MapB PP E.qa u3 bm m:=M.up
  refine rld (B:=X3) rfl ?_
  cases hg:getM m S[k].key.v with
  |none =>
   have hle:∀y∈S.take k,y.key.dir=dir→y.key.v=S[k].key.v→S[k].d≤y.d:=fun y hy hd e=>by
    have q_:=C.all y hy hd
    obtain⟨v,hv⟩:=q_
    have:=zAz hnd hv
    rw [e,hg] at this;cases this
   refine rlookN M3.l S[k].key.v rfl hg ?_
   refine rld (B:=X3) rfl ?_
   refine ite (fun hd=>?_) (fun hd=>?_)
   ·refine rld (B:=X3) rfl (rld (B:=X3) rfl ?_)
    refine rupdB M3 S[k].key.v rfl fun u6 M6 f6 _=>?_
    exact rar (by omega) ⟨rfl,hka,_,M6,by rw [hlk];exact C.set hnd hd hle,Nat.le_trans (zCQ _ _ _) (by omega),⟨Fr.st (Le.e (a:=w)) f6 fun i hi=>by omega⟩⟩
   ·exact rar (by omega) ⟨rfl,hka,m,M3,by rw [hlk];exact C.skip hd,by omega,stp⟩
  |some v =>
   have hmv:=zAS hg
   have q_:=C.val _ hmv
   obtain⟨z,h1,h2,h3,h4,h5⟩:=q_
   simp only at h3 h4
   subst h4
   refine rlookS M3.l S[k].key.v rfl hg ?_
   refine rld (B:=X3) rfl ?_
   refine ite (fun hd=>?_) (fun hd=>?_)
   ·refine rld (B:=X3) rfl ?_
    refine ite (fun hl=>?_) (fun hl=>?_)
    ·have hle:∀y∈S.take k,y.key.dir=dir→y.key.v=S[k].key.v→S[k].d≤y.d:=fun y hy hd2 e=>by
      have:=h5 y hy hd2 (e.trans h3)
      omega
     refine rld (B:=X3) rfl (rld (B:=X3) rfl ?_)
     refine rupdB M3 S[k].key.v rfl fun u6 M6 f6 _=>?_
     exact rar (by omega) ⟨rfl,hka,_,M6,by rw [hlk];exact C.set hnd hd hle,Nat.le_trans (zCQ _ _ _) (by omega),⟨Fr.st (Le.e (a:=w)) f6 fun i hi=>by omega⟩⟩
    ·exact rar (by omega) ⟨rfl,hka,m,M3,by rw [hlk];exact C.keep h1 h2 h3.symm hl,by omega,stp⟩
   ·exact rar (by omega) ⟨rfl,hka,m,M3,by rw [hlk];exact C.skip hd,by omega,stp⟩
 ·have q_:k=S.length:=by omega
  obtain rfl:=q_
  rw [List.take_length] at C
  exact⟨⟨bm,m,rfl,M,C,hm,hb⟩,su⟩
theorem zAE(f:Bool)(n:Int)(a:Option Addr)(m c:Nat):∀u∈[Value.bool f,.int .i64 n,.slice a m c],u.oneCell'=true:=by
 intro u hu;simp at hu;rcases hu with rfl|rfl|rfl <;> rfl
def MeetI (mb done:List (Int×Value)) (f:Bool) (n:Int):Prop:=
 (f=false∧n=0∧∀p∈done,getM mb p.1=none) ∨
 (f=true∧(∃p∈done,∃b d:Int,getM mb p.1=some (.int .i64 b)∧p.2=.int .i64 d∧n=d+b)∧∀p∈done,∀b d:Int,getM mb p.1=some (.int .i64 b)→p.2=.int .i64 d→n≤d+b)
theorem LeaM.get{S:List StD}{dir:Int}{m:List (Int×Value)}(h:LeaM S dir m){k:Int}{v:Value}(hg:getM m k=some v):∃z∈S,z.key.dir=dir∧z.key.v=k∧v=.int .i64 z.d∧∀y∈S,y.key.dir=dir→y.key.v=k→z.d≤y.d:=by
 have q_:=h.val _ (zAS hg)
 obtain⟨z,h1,h2,h3,h4,h5⟩:=q_
 simp only at h3 h4
 exact⟨z,h1,h2,h3.symm,h4,fun y hy hd hv=>h5 y hy hd (hv.trans h3)⟩
def meetP (S:List StD):AnP:=match minL (sums S) with
 |some m=>⟨true,m,[]⟩
 |none=>zAn
theorem zMG{S:List StD}{ma mb:List (Int×Value)}{f:Bool}{n:Int}(A:LeaM S 0 ma)(B:LeaM S 1 mb)(hnb:(mb.map (·.1)).Nodup)(h:MeetI mb ma f n):(meetP S)=⟨f,n,[]⟩:=by
 rcases h with ⟨rfl,rfl,h1⟩|⟨rfl,⟨p,hp,b,d,hb,hd,rfl⟩,h2⟩
 ·have:sums S=[]:=by
   cases hs:sums S with
   |nil=>rfl
   |cons y r =>
    have hy:y∈sums S:=by rw [hs];exact List.mem_cons_self
    have q_:=zCL.1 hy
    obtain⟨x,hx,z,hz,hx0,hz1,hzv,_⟩:=q_
    have q_:=A.all x hx hx0
    obtain⟨v,hv⟩:=q_
    have hn:=h1 _ hv
    have q_:=B.all z hz hz1
    obtain⟨v',hv'⟩:=q_
    have:=zAz hnb hv'
    rw [hzv] at this
    simp only at hn
    rw [hn] at this;cases this
  unfold meetP;rw [this];rfl
 ·have hm:minL (sums S)=some (d+b):=by
   have q_:=A.val p hp
   obtain⟨x,hx,hx0,hx1,hx2,hx3⟩:=q_
   have q_:=B.get hb
   obtain⟨z,hz,hz0,hz1,hz2,hz3⟩:=q_
   rw [hd] at hx2;cases hx2
   cases hz2
   refine zEZ.2 ⟨zCL.2 ⟨x,hx,z,hz,hx0,hz0,hz1.trans hx1,rfl⟩,fun y hy=>?_⟩
   have q_:=zCL.1 hy
   obtain⟨x',hx',z',hz',h0,h1',hv,rfl⟩:=q_
   have q_:=A.all x' hx' h0
   obtain⟨v,hvm⟩:=q_
   have q_:=A.val _ hvm
   obtain⟨u,hu,hu0,hu1,hu2,hu3⟩:=q_
   have q_:=B.all z' hz' h1'
   obtain⟨v',hvm'⟩:=q_
   have hg':=zAz hnb hvm'
   have q_:=B.get hg'
   obtain⟨t,ht,ht0,ht1,ht2,ht3⟩:=q_
   simp only at hu1 hu2
   subst ht2
   have:=h2 _ hvm t.d u.d (by simp only;rw [←hv];exact hg') hu2
   have:=hu3 x' hx' h0 hu1
   have:=ht3 z' hz' h1' rfl
   omega
  unfold meetP;rw [hm]
theorem MeetI.mem{mb a b:List (Int×Value)}{f:Bool}{n:Int}(h:MeetI mb a f n)(hm:∀p,p∈b↔p∈a):MeetI mb b f n:=by
 rcases h with ⟨h1,h2,h3⟩|⟨h1,⟨p,h2,h3⟩,h4⟩
 ·exact .inl ⟨h1,h2,fun p hp=>h3 p ((hm p).1 hp)⟩
 ·exact .inr ⟨h1,⟨p,(hm p).2 h2,h3⟩,fun p hp=>h4 p ((hm p).1 hp)⟩
theorem MeetI.skip{mb done:List (Int×Value)}{f:Bool}{n x:Int}{v:Value}(h:MeetI mb done f n)(hg:getM mb x=none):MeetI mb (done++[(x,v)]) f n:=by
 rcases h with ⟨h1,h2,h3⟩|⟨h1,⟨p,h2,h3⟩,h4⟩
 ·refine .inl ⟨h1,h2,fun p hp=>?_⟩
  have q_:=List.mem_append.1 hp
  rcases q_ with hp|hp
  ·exact h3 p hp
  ·rw [List.mem_singleton.1 hp];exact hg
 ·refine .inr ⟨h1,⟨p,List.mem_append_left _ h2,h3⟩,fun p hp b d hb hd=>?_⟩
  have q_:=List.mem_append.1 hp
  rcases q_ with hp|hp
  ·exact h4 p hp b d hb hd
  ·rw [List.mem_singleton.1 hp] at hb;simp only at hb;rw [hg] at hb;cases hb
theorem MeetI.more{mb done:List (Int×Value)}{n x d b:Int}(h:MeetI mb done true n)(hg:getM mb x=some (.int .i64 b))(hle:n≤d+b):MeetI mb (done++[(x,.int .i64 d)]) true n:=by
 rcases h with ⟨h1,_⟩|⟨h1,⟨p,h2,h3⟩,h4⟩
 ·cases h1
 ·refine .inr ⟨rfl,⟨p,List.mem_append_left _ h2,h3⟩,fun p hp b' d' hb hd=>?_⟩
  have q_:=List.mem_append.1 hp
  rcases q_ with hp|hp
  ·exact h4 p hp b' d' hb hd
  ·rw [List.mem_singleton.1 hp] at hb hd
   simp only at hb hd
   rw [hg] at hb;cases hb;cases hd;exact hle
theorem MeetI.best{mb done:List (Int×Value)}{f:Bool}{n x d b:Int}(h:MeetI mb done f n)(hg:getM mb x=some (.int .i64 b))(hle:f=true→d+b<n):MeetI mb (done++[(x,.int .i64 d)]) true (d+b):=by
 refine .inr ⟨rfl,⟨_,List.mem_append_right _ (List.mem_singleton.2 rfl),b,d,hg,rfl,rfl⟩,fun p hp b' d' hb hd=>?_⟩
 have q_:=List.mem_append.1 hp
 rcases q_ with hp|hp
 ·rcases h with ⟨h1,h2,h3⟩|⟨h1,_,h4⟩
  ·rw [h3 p hp] at hb;cases hb
  ·have:=h4 p hp b' d' hb hd
   have:=hle h1
   omega
 ·rw [List.mem_singleton.1 hp] at hb hd
  simp only at hb hd
  rw [hg] at hb;cases hb;cases hd;exact Int.le_refl _
set_option maxHeartbeats 1000000 in
theorem zJj{c:Nat}{S:List StD}(h:SlF w (.slice a n c) S)(hn:S.length≤100000)(hd:∀x∈S,0≤x.d∧x.d≤1000):
  Sp PP F.z1 #[.slice a n c] w fun v w'=>v=agg (⟨(meetP S).found,(meetP S).num,⟨none,0,0⟩⟩:AnsD)∧Stp w w':=by
 refine en TBok rfl ?_
 refine ral fun br w1 n1 R1=>ral fun ba w2 n2 A2=>?_
 have hb1:=n1.b;have hs1:=n1.s;have hb2:=n2.b;have hs2:=n2.s
 have R1:Bk w1 br [.bool false,.int .i64 0,.slice none 0 0] E.qi:=R1
 have A2:Bk w2 ba [.bool false,.int .i64 0,.slice none 0 0] E.qi:=A2
 refine rcall (zCe (dir:=1) (h.up (w':=w2)) hn) ?_
 rintro _ w3 ⟨⟨bb,mb,rfl,MB,LB,hmb,hbb⟩,e3⟩
 refine rcall (zCe (dir:=0) (h.up (w':=w3)) hn) ?_
 rintro _ w4 ⟨⟨b0,ma,rfl,MA,LA,hma,hb0⟩,e4⟩
 have z3:=e3.e.size
 have z4:=e4.e.size
 have hnb:=MB.2
 refine rnx rfl (rrangeM MA fun r w5 nr It0 _=>?_)
 have hr:=nr.b
 have hrs:=nr.s
 refine loop0G TBok 14 [5,6,7,8] (fun i u=>∃(done rest:List (Int×Value)) (f:Bool) (nn:Int),rest.length=i∧(done++rest).Perm ma∧MeetI mb done f nn∧Bk u ba [.bool f,.int .i64 nn,.slice none 0 0] E.qi∧Bk u br [.bool false,.int .i64 0,.slice none 0 0] E.qi∧MapB PP E.qa u bb mb∧ItB PP E.qa u r b0 rest∧Stp w u) rfl
  ⟨_,[],ma,false,0,rfl,.refl _,.inl ⟨rfl,rfl,by simp⟩,A2.mv,R1.mv,MB.up,It0,stp⟩ ?_
 rintro i G u ⟨done,rest,f,nn,hi,hp,hM,KA,KR,Mb,It,su⟩
 refine rnx rfl (rnextM It (fun hrest=>?_) fun x v rest' u5 hp2 hC f5 hsz=>?_)
 ·subst hrest
  rw [List.append_nil] at hp
  have e:=zMG LA LB hnb (hM.mem fun p=>hp.mem_iff.symm)
  have e2:Value.agg [Value.bool f,.int .i64 nn,.slice none 0 0].toArray=agg (⟨(meetP S).found,(meetP S).num,⟨none,0,0⟩⟩:AnsD):=by rw [e];rfl
  refine rldG (ds:=[.bool f,.int .i64 nn,.slice none 0 0]) (B:=KA) rfl rfl ?_
  refine rsto (B:=KR) (vs:=[.bool f,.int .i64 nn,.slice none 0 0]) rfl rfl rfl (zAE _ _ _ _ _) fun u6 R6 f6 _=>?_
  have R6:Bk u6 br [.bool f,.int .i64 nn,.slice none 0 0] E.qi:=R6
  have s6:Stp w u6:=⟨Fr.st su.e f6 fun i hi=>by omega⟩
  exact rresG (B:=R6) rfl ⟨e2,s6⟩
 ·have hxs:(x,v)∈ma:=hp.mem_iff.1 (List.mem_append_right _ (hp2.mem_iff.1 List.mem_cons_self))
  have q_:=LA.val _ hxs
  obtain⟨z,hz1,hz2,hz3,hz4,hz5⟩:=q_
  simp only at hz3 hz4
  subst hz4
  have hzd:=hd z hz1
  have la:=A2.lt;have lr:=R1.lt
  have z24:=Le.size (a:=w2) (b:=w4)
  have KA5:=KA.fr f5 (by omega)
  have KR5:=KR.fr f5 (by omega)
  have hbl:=MB.lt
  have Mb5:MapB PP E.qa u5 bb mb:=Mb.fr f5 (by omega)
  have s5:Stp w u5:=⟨Fr.st su.e f5 fun i hi=>by omega⟩
  have hp3:(done++[(x,Value.int .i64 z.d)]++rest').Perm ma:=by
   rw [List.append_assoc];exact(List.Perm.append_left done hp2).trans hp
  have hi2:=hp2.length_eq
  rw [List.length_cons] at hi2
  refine rnx rfl (rentryM hC ?_)
  cases hg:getM mb x with
  |none =>
   refine rlookN Mb5.l x rfl hg ?_
   exact⟨rest'.length,by omega,_,rest',f,nn,rfl,hp3,hM.skip hg,KA5,KR5,Mb5,hC.b,s5⟩
  |some bv =>
   have q_:=LB.get hg
   obtain⟨t,ht1,ht2,ht3,rfl,ht5⟩:=q_
   have htd:=hd t ht1
   refine rlookS Mb5.l x rfl hg ?_
   refine rld (B:=KA5) rfl ?_
   have lo5:ba<u5.heap.size:=KA5.lt
   cases f with
   |false =>
    refine rarE (y:=z.d+t.d) rfl (by omega) ?_
    refine rbuild (cs:=[.bool true,.int .i64 (z.d+t.d),.slice none 0 0]) rfl ?_
    refine rsto (B:=KA5) (vs:=[.bool true,.int .i64 (z.d+t.d),.slice none 0 0]) rfl rfl rfl (zAE _ _ _ _ _) fun u6 K6 f6 _=>?_
    have K6:Bk u6 ba [.bool true,.int .i64 (z.d+t.d),.slice none 0 0] E.qi:=K6
    have R6:=KR5.fr f6 (by omega)
    have Mb6:MapB PP E.qa u6 bb mb:=Mb5.fr f6 (by omega)
    have It6:ItB PP E.qa u6 r b0 rest':=hC.b.fr f6 (by omega) (by omega)
    have s6:Stp w u6:=⟨Fr.st s5.e f6 fun i hi=>by omega⟩
    exact⟨rest'.length,by omega,_,rest',true,z.d+t.d,rfl,hp3,hM.best hg (fun h=>nomatch h),K6,R6,Mb6,It6,s6⟩
   |true =>
    refine rarE (y:=z.d+t.d) rfl (by omega) ?_
    refine rld (B:=KA5) rfl ?_
    refine ite (fun hl=>?_) (fun hl=>?_)
    ·refine rarE (y:=z.d+t.d) rfl (by omega) ?_
     refine rbuild (cs:=[.bool true,.int .i64 (z.d+t.d),.slice none 0 0]) rfl ?_
     refine rsto (B:=KA5) (vs:=[.bool true,.int .i64 (z.d+t.d),.slice none 0 0]) rfl rfl rfl (zAE _ _ _ _ _) fun u6 K6 f6 _=>?_
     have K6:Bk u6 ba [.bool true,.int .i64 (z.d+t.d),.slice none 0 0] E.qi:=K6
     have R6:=KR5.fr f6 (by omega)
     have Mb6:MapB PP E.qa u6 bb mb:=Mb5.fr f6 (by omega)
     have It6:ItB PP E.qa u6 r b0 rest':=hC.b.fr f6 (by omega) (by omega)
     have s6:Stp w u6:=⟨Fr.st s5.e f6 fun i hi=>by omega⟩
     exact⟨rest'.length,by omega,_,rest',true,z.d+t.d,rfl,hp3,hM.best hg (fun _=>hl),K6,R6,Mb6,It6,s6⟩
    ·exact⟨rest'.length,by omega,_,rest',true,nn,rfl,hp3,hM.more hg (by omega),KA5,KR5,Mb5,hC.b,s5⟩
section
variable {P:Program} {kt:TypeId} {κ:Type} [DecidableEq κ] [M:MKey P kt κ] {D:Nat→Prop} {k:Value→Prop} {w:World}
theorem tlookN{t e:TypeId}{z:Value}{sz by':Nat}[ht:MapT P t kt e][he:Elem P e z sz by']{b:Nat}{m:List (κ×Value)}{xv:Value}(h:MapL P kt w b m)(hd:¬D b)(x:κ)(hx:xv=M.val x)(hv:getM m x=none)(hk:k (.tuple #[z,.bool false])):TakeS P (Instr.lookup t (.map (some b)) xv true) D k w:=
 tlook2 h hd x hx (by rw [hv];exact hk)
theorem tlookS{t e:TypeId}{z:Value}{sz by':Nat}[ht:MapT P t kt e][he:Elem P e z sz by']{b:Nat}{m:List (κ×Value)}{xv:Value}(h:MapL P kt w b m)(hd:¬D b)(x:κ)(hx:xv=M.val x){v:Value}(hv:getM m x=some v)(hk:k (.tuple #[v,.bool true])):TakeS P (Instr.lookup t (.map (some b)) xv true) D k w:=
 tlook2 h hd x hx (by rw [hv];exact hk)
end
def AnsO (B:Nat) (w:World) (v:Value) (p:AnP):Prop:=∃x:AnsD,v=agg x∧x.found=p.found∧x.num=p.num∧Own B E.qm w (.slice x.s.a x.s.n x.s.c) p.hits
theorem zLG(pl:List Int)(S:List StD)(x:StD):hitsL pl (S++[x])=hitsL pl S++if x.key.dir=0∧x.key.v∈pl then [⟨x.key.v,x.d⟩] else []:=by
 unfold hitsL
 rw [List.filter_append,List.map_append]
 congr 1
 by_cases h:x.key.dir=0∧x.key.v∈pl
 ·simp [h]
 ·rw [if_neg h]
  have h':x.key.dir=0→x.key.v∉pl:=fun h1 h2=>h ⟨h1,h2⟩
  simpa using h'
theorem zHK(pl:List Int)(S:List StD):(hitsL pl S).length≤S.length:=by
 unfold hitsL;rw [List.length_map];exact List.length_filter_le _ _
theorem zJZ(g:GrD)(ws:List ByteArray):(placesL g ws).length≤g.n:=by
 unfold placesL;rw [List.length_map];exact Nat.le_trans (List.length_filter_le _ _) (by simp)
set_option maxHeartbeats 1000000 in
theorem zJi{xq:RQ}{ws:List ByteArray}{ps:List RPo}{c c2:Nat}{S:List StD}(V:QyV w xq q)(hg:GrIs g)(h:SlF w (.slice a n c) ps)(M:PosM w g ws ps)(hpn:ps.length≤100000)
  (h2:SlF w (.slice a2 n2 c2) S)(hSn:S.length≤1000)(hq1:q.words≠[])(hqn:q.words.length≤1000):
  Sp PP F.qae #[agg xq,.slice a n c,.slice a2 n2 c2] w fun v w'=>AnsO w.heap.size w' v ⟨!(firstK q.most (hitsL (placesL g q.words) S)).isEmpty,0,firstK q.most (hitsL (placesL g q.words) S)⟩∧Stp w w':=by
 have q_:=h.len
 obtain rfl:=q_
 have q_:=h2.len
 obtain rfl:=q_
 have hn2:=hg.ok.n2
 have hplen:=zJZ g q.words
 obtain⟨k1,k2,k3,kw,k4,k5⟩:=V
 refine en TBok rfl ?_
 refine rbx fun bq w1 n1 Bq=>ral fun br w2 n2 R2=>?_
 have R2:Bk w2 br [.bool false,.int .i64 0,.slice none 0 0] E.qi:=R2
 have hb1:=n1.b;have hs1:=n1.s;have hb2:=n2.b;have hs2:=n2.s
 refine rld (B:=Bq) rfl ?_
 refine rcall (zHc (h.up (w':=w2)) (M.up (w':=w2)) hg hpn (kw.up (w':=w2)) hq1 (by omega)) ?_
 rintro _ w3 ⟨⟨pv,rfl,OP⟩,e3⟩
 refine ite (fun h=>absurd rfl h) (fun _=>?_)
 have q_:=OP.shape
 obtain⟨pa,pc,rfl⟩:=q_
 refine cnt1 TBok 24 [11] 9 24 S.length (fun k v u=>Own w3.heap.size E.qm u v (hitsL (placesL g q.words) (S.take k))∧Stp w3 u) rfl rfl ⟨Own.nil _ _ _,stp⟩ ?_
 rintro k v G u hk ⟨O,su⟩
 refine ite (fun hlt=>?_) (fun hge=>?_)
 ·have hka:k<S.length:=by omega
  have hadd:=zLG (placesL g q.words) (S.take k) S[k]
  rw [←zAa hka] at hadd
  have hhl:=zHK (placesL g q.words) (S.take k)
  rw [List.length_take] at hhl
  refine rix (h2.up (w':=u)) (x:=S[k]) (by simp) fun b4 o4 A4=>rloadA A4 rfl ?_
  refine ral fun b5 u5 n5 z5=>?_
  have hb5:=n5.b;have hs5:=n5.s
  refine rsto (B:=z5) (vs:=enc S[k]) rfl rfl rfl (Enc.one _) fun u6 X6 f6 _=>?_
  have X6:Bk u6 b5 (enc S[k]) E.qg:=X6
  have s6:Stp u u6:=⟨Fr.st (Le.e (a:=u) (b:=u5)) f6 fun i hi=>by omega⟩
  refine rld (B:=X6) rfl ?_
  refine ite (fun hd=>?_) (fun hd=>?_)
  ·refine rld (B:=X6) rfl ?_
   refine rcall (zCX (x:=S[k].key.v) (OP.sl.up (w':=u6)) (by omega)) ?_
   rintro _ u7 ⟨⟨rfl,hc⟩|⟨rfl,hc⟩,e7⟩
   ·rw [if_pos ⟨hd,hc⟩] at hadd
    refine rld (B:=X6) rfl (rld (B:=X6) rfl ?_)
    refine rbuild (cs:=enc (⟨S[k].key.v,S[k].d⟩:HitD)) rfl ?_
    refine rbs1 (⟨S[k].key.v,S[k].d⟩:HitD) rfl rfl (by decide) fun b8 u8 n8 _ S8=>?_
    refine rapp1 (u:=w3) ⟨rfl,rfl⟩ (O.up (w':=u8)) S8 (by omega) fun v9 u9 O9 f9 s9=>?_
    rw [←hadd] at O9
    exact rar (by omega) ⟨rfl,hka,O9,stp⟩
   ·rw [if_neg (fun h=>hc h.2),List.append_nil] at hadd
    have O7:=O.up (w':=u7)
    rw [←hadd] at O7
    exact rar (by omega) ⟨rfl,hka,O7,stp⟩
  ·rw [if_neg (fun h=>hd h.1),List.append_nil] at hadd
   have O7:=O.up (w':=u6)
   rw [←hadd] at O7
   exact rar (by omega) ⟨rfl,hka,O7,stp⟩
 ·have q_:k=S.length:=by omega
  obtain rfl:=q_
  rw [List.take_length] at O
  have hhl:=zHK (placesL g q.words) S
  have q_:=O.shape
  obtain⟨ha,hc,rfl⟩:=q_
  refine rld (B:=Bq) rfl ?_
  refine rcall (zIe (k:=xq.most) (O.sl) (by omega)) ?_
  rintro v u2 ⟨O2,e2⟩
  have hfk:(if xq.most<1 then [] else firstQ xq.most (hitsL (placesL g q.words) S))=firstK q.most (hitsL (placesL g q.words) S):=by rw [k5];rfl
  rw [hfk] at O2
  have R3:=R2.mv (w:=u2)
  have zu:=Le.size (a:=w) (b:=u)
  have q_:=O2.shape
  obtain⟨va,vc,rfl⟩:=q_
  have fin:∀(u3:World) (b:Bool),b = !(firstK q.most (hitsL (placesL g q.words) S)).isEmpty→Fr (fun i=>i=br) u2 u3→AnsO w.heap.size u3 (.agg [Value.bool b,.int .i64 0,.slice va (firstK q.most (hitsL (placesL g q.words) S)).length vc].toArray) ⟨!(firstK q.most (hitsL (placesL g q.words) S)).isEmpty,0,firstK q.most (hitsL (placesL g q.words) S)⟩∧Stp w u3:=fun u3 b hb f3 =>
   ⟨⟨⟨b,0,⟨va,(firstK q.most (hitsL (placesL g q.words) S)).length,vc⟩⟩,rfl,hb,rfl,(O2.mono zu).frc f3 R3 (by decide)⟩,⟨Fr.st (Le.e (a:=w) (b:=u2)) f3 fun i hi=>by omega⟩⟩
  refine ite (fun hgt=>?_) (fun hgt=>?_)
  ·have hb:true = !(firstK q.most (hitsL (placesL g q.words) S)).isEmpty:=by
    cases hh:firstK q.most (hitsL (placesL g q.words) S) with
    |nil=>rw [hh] at hgt;simp at hgt
    |cons x r=>rfl
   refine rbuild (cs:=[.bool true,.int .i64 0,.slice va (firstK q.most (hitsL (placesL g q.words) S)).length vc]) rfl ?_
   refine rsto (B:=R3) (vs:=[.bool true,.int .i64 0,.slice va (firstK q.most (hitsL (placesL g q.words) S)).length vc]) rfl rfl rfl (zAE _ _ _ _ _) fun u3 R4 f3 _=>?_
   exact rresG (B:=R4) rfl (fin u3 true hb f3)
  ·have hb:false = !(firstK q.most (hitsL (placesL g q.words) S)).isEmpty:=by
    cases hh:firstK q.most (hitsL (placesL g q.words) S) with
    |nil=>rfl
    |cons x r=>rw [hh] at hgt;exact absurd hgt (by simp <;> omega)
   refine rbuild (cs:=[.bool false,.int .i64 0,.slice va (firstK q.most (hitsL (placesL g q.words) S)).length vc]) rfl ?_
   refine rsto (B:=R3) (vs:=[.bool false,.int .i64 0,.slice va (firstK q.most (hitsL (placesL g q.words) S)).length vc]) rfl rfl rfl (zAE _ _ _ _ _) fun u3 R4 f3 _=>?_
   exact rresG (B:=R4) rfl (fin u3 false hb f3)
theorem zGe{x:StD}{b:Nat}{d:Int}(K:Bk w b [.int .i64 d] E.qa):Sp PP F.yo #[agg x,.pointer (some ⟨b,0,none⟩)] w fun v w'=>Tells (x.key.dir=d) v∧Stp w w':=by
 refine en TBok rfl ?_
 refine rbx fun b1 w1 n1 B1=>?_
 refine rld (B:=B1) rfl (rld (B:=K) rfl ?_)
 exact ite (fun h=>⟨.t h,stp⟩) (fun h=>⟨.f h,stp⟩)
theorem zDt{M:List StD}{bm:Nat}{d:Int}{c:Nat}(K:Bk w bm [.slice a n c] E.qn)(h:SlF w (.slice a n c) M)(hn:M.length≤1000000):Sp PP F.ca #[.int .i64 d,.pointer (some ⟨bm,0,none⟩)] w fun v w'=>v=.bool (hasDir M d)∧Stp w w':=by
 refine en TBok rfl ?_
 refine rbx fun b1 w1 n1 B1=>?_
 refine rld (B:=K) rfl ?_
 refine rcall (zBF (g:=F.yo) (first:=[]) (cap:=[.pointer (some ⟨b1,0,none⟩)]) (p:=fun x=>x.key.dir=d) (h.up (w':=w1)) hn fun x u hx e=>zGe (B1.fr e not_false)) ?_
 rintro _ w2 ⟨⟨rfl,h2⟩|⟨rfl,h2⟩,e2⟩
 ·have:hasDir M d=true:=by
   obtain⟨y,hy,h3⟩:=h2
   exact List.any_eq_true.2 ⟨y,hy,by simpa using h3⟩
  rw [this];exact⟨rfl,stp⟩
 ·have:hasDir M d=false:=by
   rw [Bool.eq_false_iff]
   intro h3
   have q_:=List.any_eq_true.1 h3
   obtain⟨y,hy,h4⟩:=q_
   exact h2 ⟨y,hy,by simpa using h4⟩
  rw [this];exact⟨rfl,stp⟩
set_option maxHeartbeats 2000000 in
theorem zE4{xq:RQ}{ws:List ByteArray}{ps:List RPo}{c c2 c3:Nat}{S M:List StD}(V:QyV w xq q)(hq:QyOk q g.n)(hg:GrIs g)(h:SlF w (.slice a n c) ps)(Mp:PosM w g ws ps)(hpn:ps.length≤100000)
  (h2:SlF w (.slice a2 n2 c2) S)(hSn:S.length≤1000)(hSd:∀x∈S,0≤x.d∧x.d≤1000)(h3:SlF w (.slice a3 n3 c3) M)(hMn:M.length≤1000):
  Sp PP F.yl #[agg xq,.slice a n c,.slice a2 n2 c2,.slice a3 n3 c3] w fun v w'=>(∃v1,v=.tuple #[v1,.bool (doneL g q S M).2]∧AnsO w.heap.size w' v1 (doneL g q S M).1)∧Stp w w':=by
 have q_:=h3.len
 obtain rfl:=q_
 have q_:=h2.len
 obtain rfl:=q_
 have q_:=h.len
 obtain rfl:=q_
 have hkd:=hq.kind
 obtain⟨k1,k2,k3,kw,k4,k5⟩:=V
 refine en TBok rfl ?_
 refine rbx fun bq w1 n1 Bq=>rbx fun bm w2 n2 Bm=>ral fun br w3 n3 R3=>?_
 have R3:Bk w3 br [.bool false,.int .i64 0,.slice none 0 0] E.qi:=R3
 have hb1:=n1.b;have hs1:=n1.s;have hb2:=n2.b;have hs2:=n2.s;have hb3:=n3.b;have hs3:=n3.s
 refine rld (B:=Bq) rfl ?_
 refine ite (fun h1=>?_) (fun h1=>?_)
 ·have e1:doneL g q S M=distL S M:=by unfold doneL;rw [if_pos (by omega)]
  have MS:=zJj (h2.up (w':=w3)) (by omega) hSd
  have e2:distL S M=((meetP S),(meetP S).found || (!hasDir M 0 || !hasDir M 1)):=by
   unfold distL meetP
   cases minL (sums S) <;> rfl
  have hhits:(meetP S).hits=[]:=by unfold meetP;cases minL (sums S) <;> rfl
  generalize meetP S=P at MS e2 hhits
  obtain⟨pf,pn,ph⟩:=P
  simp only at hhits
  subst hhits
  have MS:Sp PP F.z1 #[.slice a2 S.length c2] w3 fun v w'=>v=.agg #[.bool pf,.int .i64 pn,.slice none 0 0]∧Stp w3 w':=MS
  refine rcall MS ?_
  rintro _ w4 ⟨rfl,e4⟩
  refine ral fun ba w5 n5 Z5=>?_
  have hb5:=n5.b;have hs5:=n5.s
  refine rsto (B:=Z5) (vs:=[.bool pf,.int .i64 pn,.slice none 0 0]) rfl rfl rfl (zAE _ _ _ _ _) fun w6 A6 f6 _=>?_
  have A6:Bk w6 ba [.bool pf,.int .i64 pn,.slice none 0 0] E.qi:=A6
  have s6:Stp w4 w6:=⟨Fr.st (Le.e (a:=w4) (b:=w5)) f6 fun i hi=>by omega⟩
  clear Z5 f6
  have R6:=R3.mv (w:=w6)
  have lr:=R3.lt
  have z34:=Le.size (a:=w3) (b:=w4)
  have hne:ba≠br:=by omega
  have fin:∀(u u':World) (b:Bool),Stp w6 u→Bk u' br [.bool pf,.int .i64 pn,.slice none 0 0] E.qi→Fr (fun i=>i=br) u u'→b=(pf || (!hasDir M 0 || !hasDir M 1))→(∃v1,Value.tuple #[.agg [Value.bool pf,.int .i64 pn,.slice none 0 0].toArray,.bool b]=.tuple #[v1,.bool (doneL g q S M).2]∧AnsO w.heap.size u' v1 (doneL g q S M).1)∧Stp w u':=fun u u' b s _ f hb=>by
   rw [e1,e2,hb]
   exact⟨⟨_,rfl,⟨pf,pn,⟨none,0,0⟩⟩,rfl,rfl,rfl,Own.nil _ _ _⟩,⟨Fr.st (Le.e (a:=w) (b:=u)) f fun i hi=>by omega⟩⟩
  refine drawR TBok mixed (fun i=>i=br) [0,1,2,3,4,5,6,7,8,9,10,11,12,13,14] (by kernel_rfl) fun w7 e7 _=>?_
  refine tldG (ds:=[.bool pf,.int .i64 pn,.slice none 0 0]) (B:=A6) rfl rfl hne ?_
  refine tld (B:=A6) rfl hne ?_
  cases pf with
  |true =>
   refine rsto (B:=R6) (vs:=[.bool _,.int .i64 pn,.slice none 0 0]) rfl rfl rfl (zAE _ _ _ _ _) fun u9 R9 f9 _=>⟨f9,?_⟩
   refine rresG (B:=R9) rfl ?_
   exact fin _ _ true stp R9 f9 rfl
  |false =>
   have D0:=zDt (d:=0) (Bm.mv (w:=w7)) (h3.up (w':=w7)) (by omega)
   cases hd0:hasDir M 0 with
   |false =>
    rw [hd0] at D0
    refine rcall D0 ?_
    rintro _ w8 ⟨rfl,e8⟩
    refine⟨Fr.fr e8.e,?_⟩
    refine rsto (B:=R6) (vs:=[.bool _,.int .i64 pn,.slice none 0 0]) rfl rfl rfl (zAE _ _ _ _ _) fun u9 R9 f9 _=>⟨f9,?_⟩
    refine rresG (B:=R9) rfl ?_
    exact fin _ _ true stp R9 f9 (by rw [hd0];rfl)
   |true =>
    rw [hd0] at D0
    refine rcall D0 ?_
    rintro _ w8 ⟨rfl,e8⟩
    refine⟨Fr.fr e8.e,?_⟩
    have D1:=zDt (d:=1) (Bm.mv (w:=w8)) (h3.up (w':=w8)) (by omega)
    cases hd1:hasDir M 1 with
    |false =>
     rw [hd1] at D1
     refine rcall D1 ?_
     rintro _ w9 ⟨rfl,e9⟩
     refine⟨Fr.fr e9.e,?_⟩
     refine rsto (B:=R6) (vs:=[.bool _,.int .i64 pn,.slice none 0 0]) rfl rfl rfl (zAE _ _ _ _ _) fun u9 R9 f9 _=>⟨f9,?_⟩
     refine rresG (B:=R9) rfl ?_
     exact fin _ _ true stp R9 f9 (by rw [hd0,hd1];rfl)
    |true =>
     rw [hd1] at D1
     refine rcall D1 ?_
     rintro _ w9 ⟨rfl,e9⟩
     refine⟨Fr.fr e9.e,?_⟩
     refine rsto (B:=R6) (vs:=[.bool _,.int .i64 pn,.slice none 0 0]) rfl rfl rfl (zAE _ _ _ _ _) fun u9 R9 f9 _=>⟨f9,?_⟩
     refine rresG (B:=R9) rfl ?_
     exact fin _ _ false stp R9 f9 (by rw [hd0,hd1];rfl)
 refine ite (fun h1'=>?_) (fun h1'=>?_)
 ·have e1:doneL g q S M=reachL q.to S M:=by unfold doneL;rw [if_neg (by omega),if_pos (by omega)]
  refine drawR TBok mixed (fun _=>False) [0,2,3,1,4,5,6,7,8,9] (by kernel_rfl) fun w4 e4 _=>?_
  refine tld (B:=Bq) rfl not_false ?_
  refine rcall (zCe (dir:=0) (h2.up (w':=w4)) (by omega)) ?_
  rintro _ w5 ⟨⟨b5,m5,rfl,M5,L5,_,_⟩,e5⟩
  refine⟨e5.e,?_⟩
  have R5:=R3.mv (w:=w5)
  cases hg:getM m5 xq.to with
  |none =>
   have hr:reachL q.to S M=(zAn,M.isEmpty):=by
    unfold reachL
    rw [if_neg]
    intro hany
    have q_:=List.any_eq_true.1 hany
    obtain⟨x,hx,h4⟩:=q_
    simp only [decide_eq_true_eq] at h4
    have q_:=L5.all x hx h4.1
    obtain⟨v,hv⟩:=q_
    have:=zAz M5.2 hv
    rw [h4.2,←k3,hg] at this;cases this
   refine tlookN M5.l not_false xq.to rfl hg ?_
   refine drawR TBok mixed (fun i=>i=br) [0,1,2,3,4,5,6,7,8,9] (by kernel_rfl) fun w6 e6 _=>?_
   refine tbuild (cs:=[.bool false,.int .i64 0,.slice none 0 0]) rfl ?_
   have R6:=R5.mv (w:=w6)
   have hnm:bm≠br:=by omega
   refine tld (B:=Bm) rfl hnm ?_
   have fin:∀(u:World) (b:Bool),Fr (fun i=>i=br) w6 u→b=M.isEmpty→(∃v1,Value.tuple #[.agg [Value.bool false,.int .i64 0,.slice none 0 0].toArray,.bool b]=.tuple #[v1,.bool (doneL g q S M).2]∧AnsO w.heap.size u v1 (doneL g q S M).1)∧Stp w u:=fun u b f hb=>by
    rw [e1,hr,hb]
    exact⟨⟨_,rfl,⟨false,0,⟨none,0,0⟩⟩,rfl,rfl,rfl,Own.nil _ _ _⟩,⟨Fr.st (Le.e (a:=w) (b:=w6)) f fun i hi=>by omega⟩⟩
   refine ite (fun h0=>?_) (fun h0=>?_)
   ·have hM:true=M.isEmpty:=by
     cases M with
     |nil=>rfl
     |cons x r=>exact absurd h0 (by simp;omega)
    refine rsto (B:=R6) (vs:=[.bool false,.int .i64 0,.slice none 0 0]) rfl rfl rfl (zAE _ _ _ _ _) fun u9 R9 f9 _=>⟨f9,?_⟩
    exact rresG (B:=R9) rfl (fin u9 true f9 hM)
   ·have hM:false=M.isEmpty:=by
     cases M with
     |nil=>exact absurd rfl h0
     |cons x r=>rfl
    refine rsto (B:=R6) (vs:=[.bool false,.int .i64 0,.slice none 0 0]) rfl rfl rfl (zAE _ _ _ _ _) fun u9 R9 f9 _=>⟨f9,?_⟩
    exact rresG (B:=R9) rfl (fin u9 false f9 hM)
  |some v =>
   have hr:reachL q.to S M=(⟨true,0,[]⟩,true):=by
    unfold reachL
    rw [if_pos]
    have q_:=L5.get hg
    obtain⟨z,hz,hz0,hz1,_⟩:=q_
    exact List.any_eq_true.2 ⟨z,hz,by simp only [decide_eq_true_eq];exact⟨hz0,by rw [hz1,k3]⟩⟩
   refine tlookS M5.l not_false xq.to rfl hg ?_
   refine drawR TBok mixed (fun i=>i=br) [0,1,2,3,4,5,6,7,8,9] (by kernel_rfl) fun w6 e6 _=>?_
   refine tbuild (cs:=[.bool true,.int .i64 0,.slice none 0 0]) rfl ?_
   have R6:=R5.mv (w:=w6)
   refine rsto (B:=R6) (vs:=[.bool true,.int .i64 0,.slice none 0 0]) rfl rfl rfl (zAE _ _ _ _ _) fun u9 R9 f9 _=>⟨f9,?_⟩
   refine rresG (B:=R9) rfl ?_
   have fin:(∃v1,Value.tuple #[.agg [Value.bool true,.int .i64 0,.slice none 0 0].toArray,.bool true]=.tuple #[v1,.bool (doneL g q S M).2]∧AnsO w.heap.size u9 v1 (doneL g q S M).1)∧Stp w u9:=by
    rw [e1,hr]
    exact⟨⟨_,rfl,⟨true,0,⟨none,0,0⟩⟩,rfl,rfl,rfl,Own.nil _ _ _⟩,⟨Fr.st (Le.e (a:=w) (b:=w6)) f9 fun i hi=>by omega⟩⟩
   exact fin
 refine ite (fun h1''=>?_) (fun h1''=>absurd hkd (by omega))
 have e1:doneL g q S M=nearL (placesL g q.words) q.most S M:=by unfold doneL;rw [if_neg (by omega),if_neg (by omega),if_pos (by omega)]
 have hnear:=hq.near (by omega)
 refine rld (B:=Bm) rfl ?_
 refine ite (fun h0=>?_) (fun h0=>?_)
 ·have hM:M.isEmpty=false:=by
   cases M with
   |nil=>exact absurd h0 (by simp)
   |cons x r=>rfl
  have hr:nearL (placesL g q.words) q.most S M=(zAn,false):=by unfold nearL;rw [hM];rfl
  refine rbuild (cs:=[.bool false,.int .i64 0,.slice none 0 0]) rfl ?_
  refine rsto (B:=R3) (vs:=[.bool false,.int .i64 0,.slice none 0 0]) rfl rfl rfl (zAE _ _ _ _ _) fun u9 R9 f9 _=>?_
  refine rresG (B:=R9) rfl ?_
  have fin:(∃v1,Value.tuple #[.agg [Value.bool false,.int .i64 0,.slice none 0 0].toArray,.bool false]=.tuple #[v1,.bool (doneL g q S M).2]∧AnsO w.heap.size u9 v1 (doneL g q S M).1)∧Stp w u9:=by
   rw [e1,hr]
   exact⟨⟨_,rfl,⟨false,0,⟨none,0,0⟩⟩,rfl,rfl,rfl,Own.nil _ _ _⟩,⟨Fr.st (Le.e (a:=w) (b:=w3)) f9 fun i hi=>by omega⟩⟩
  exact fin
 ·have hM:M.isEmpty=true:=by
   cases M with
   |nil=>rfl
   |cons x r=>exact absurd (show (0:Int)<((x::r).length:Int) by simp <;> omega) (by omega)
  have hr:nearL (placesL g q.words) q.most S M=(⟨!(firstK q.most (hitsL (placesL g q.words) S)).isEmpty,0,firstK q.most (hitsL (placesL g q.words) S)⟩,true):=by unfold nearL;rw [hM];rfl
  refine rldG (ds:=enc xq) (B:=Bq) rfl rfl ?_
  refine rcall (zJi (q:=q) ⟨k1,k2,k3,kw.up (w':=w3),k4,k5⟩ hg (h.up (w':=w3)) (Mp.up (w':=w3)) hpn (h2.up (w':=w3)) hSn (by intro h;have:=hnear.1;rw [h] at this;simp at this) (by omega)) ?_
  rintro v w4 ⟨⟨x,rfl,hx1,hx2,OX⟩,e4⟩
  have R4:=R3.mv (w:=w4)
  refine rsto (B:=R4) (vs:=enc x) rfl rfl rfl (Enc.one _) fun u9 R9 f9 _=>?_
  have R9:Bk u9 br (enc x) E.qi:=R9
  refine rresG (B:=R9) rfl ?_
  have fin:(∃v1,Value.tuple #[.agg (enc x).toArray,.bool true]=.tuple #[v1,.bool (doneL g q S M).2]∧AnsO w.heap.size u9 v1 (doneL g q S M).1)∧Stp w u9:=by
   rw [e1,hr]
   exact⟨⟨_,rfl,x,rfl,hx1,hx2,(OX.mono (Le.size (a:=w) (b:=w3))).frc f9 R4 (by decide)⟩,⟨Fr.st (Le.e (a:=w) (b:=w4)) f9 fun i hi=>by omega⟩⟩
  exact fin
end Go.W
namespace Go.W
open Go
variable {B N i j k m n n2 n3:Nat} {P:Program} {a a2 a3:Option Addr} {g:GrD} {q:QyD} {s:List UInt8} {u w w':World}
abbrev Hs:=List (Option (RqD×Nat))
theorem zL8{f f':Nat→Nat}(h:∀j,j≠k→f' j=f j):∀n,k<n→((List.range n).map f').sum+f k=((List.range n).map f).sum+f' k:=by
 intro n
 induction n with
 |zero=>intro hk;omega
 |succ n ih =>
  intro hk
  rw [List.range_succ,List.map_append,List.map_append,List.sum_append,List.sum_append]
  simp only [List.map_cons,List.map_nil,List.sum_cons,List.sum_nil]
  have q_:=Nat.lt_or_ge k n
  rcases q_ with h1|h1
  ·have:=ih h1
   have:=h n (by omega)
   omega
  ·have q_:k=n:=by omega
   obtain rfl:=q_
   have:((List.range k).map f')=((List.range k).map f):=by
    apply List.map_congr_left
    intro j hj
    exact h j (by have:=List.mem_range.1 hj;omega)
   rw [this];omega
def cntW (g:GrD) (W:Nat) (w:Nat) (o:Option (RqD×Nat)) (k:Nat):Nat:=((sts1 g o k).filter fun x=>decide (homW W x.key.v=w)).length
theorem zF5(g:GrD)(W:Nat)(h:Hs)(w:Nat):liveW g W h w=((List.range h.length).map fun k=>cntW g W w (h.getD k none) k).sum:=by
 unfold liveW allS cntW
 rw [List.filter_flatMap,List.length_flatMap]
theorem zAN{α:Type}{l:List α}{x z:α}(hk:k<l.length):(l.set k x).getD j z=if j=k then x else l.getD j z:=by
 rw [List.getD_eq_getElem?_getD,List.getD_eq_getElem?_getD,List.getElem?_set]
 by_cases e:k=j
 ·subst e;simp [hk]
 ·simp [e,Ne.symm e]
theorem zCJ{W w:Nat}{h:Hs}(hk:k<h.length)(o:Option (RqD×Nat)):liveW g W (h.set k o) w+cntW g W w (h.getD k none) k=liveW g W h w+cntW g W w o k:=by
 rw [zF5,zF5,List.length_set]
 have:=zL8 (f:=fun k=>cntW g W w (h.getD k none) k) (f':=fun j=>cntW g W w ((h.set k o).getD j none) j) (k:=k) (fun j hj=>by simp only [zAN hk,if_neg hj]) h.length hk
 have e:(h.set k o).getD k none=o:=by rw [zAN hk,if_pos rfl]
 rw [e] at this
 exact this
theorem zII(g:GrD)(W w k:Nat):cntW g W w none k=0:=rfl
theorem zIJ(g:GrD)(W w k:Nat)(x:RqD):cntW g W w (some (x,0)) k=0:=rfl
theorem zCN{c:CfD}{h:Hs}:overS g c h=true↔∃w,w<c.workers∧c.pool<liveW g c.workers h w:=by
 simp [overS]
theorem zDs{c:CfD}{h h':Hs}(hl:∀w,liveW g c.workers h' w≤liveW g c.workers h w)(ho:overS g c h=false):overS g c h'=false:=by
 rw [←Bool.not_eq_true,zCN] at ho ⊢
 rintro⟨w,h1,h2⟩
 exact ho ⟨w,h1,by have:=hl w;omega⟩
theorem zC7{W:Nat}{h:Hs}(hk:k<h.length)(w:Nat):liveW g W (h.set k none) w≤liveW g W h w:=by
 have:=zCJ (g:=g) (W:=W) (w:=w) hk none
 rw [zII] at this;omega
def idsW (l:List RqD):List Int:=l.map (·.id)
def idsH (h:Hs):List Int:=h.filterMap fun o=>o.map (·.1.id)
structure RqOk (g:GrD) (x:RqD):Prop where
 q:QyIs x.q g.n
 id:0≤x.id∧x.id≤2147483647
structure SvOk (g:GrD) (c:CfD) (s:SvD):Prop where
 len:s.held.length=c.slots
 wl:s.wait.length≤c.queue
 wait:∀x∈s.wait,RqOk g x
 held:∀x i,some (x,i)∈s.held→RqOk g x∧i<c.budget
 ids:(idsH s.held++idsW s.wait).Nodup
 pool:overS g c s.held=false
structure CfOk (c:CfD):Prop where
 workers:1≤c.workers∧c.workers≤16
 slots:1≤c.slots∧c.slots≤64
 queue:1≤c.queue∧c.queue≤1000
 pool:1≤c.pool∧c.pool≤400
 budget:1≤c.budget∧c.budget≤1000
theorem zMH{h:Hs}{id:Int}:id∈idsH h↔∃x i,some (x,i)∈h∧x.id=id:=by
 unfold idsH
 rw [List.mem_filterMap]
 constructor
 ·rintro⟨o,ho,e⟩
  cases o with
  |none=>cases e
  |some p=>exact⟨p.1,p.2,ho,Option.some.inj e⟩
 ·rintro⟨x,i,h1,rfl⟩;exact⟨_,h1,rfl⟩
theorem zCq{h:Hs}(hk:k<h.length)(o:Option (RqD×Nat)):idsH (h.set k o)=idsH (h.take k)++(o.map (·.1.id)).toList++idsH (h.drop (k+1)):=by
 rw [List.set_eq_take_append_cons_drop,if_pos hk]
 unfold idsH
 rw [List.filterMap_append,List.filterMap_cons,List.append_assoc]
 cases o <;> simp
theorem zF0{h:Hs}(hk:k<h.length):idsH h=idsH (h.take k)++((h.getD k none).map (·.1.id)).toList++idsH (h.drop (k+1)):=by
 have:=zCq hk (h.getD k none)
 have e:h.set k (h.getD k none)=h:=by
  rw [List.getD_eq_getElem?_getD,List.getElem?_eq_getElem hk]
  simp
 rw [e] at this
 exact this
theorem zHM{h:Hs}(hk:k<h.length){x:RqD}(e:h.getD k none=some (x,i)):idsH (h.set k (some (x,j)))=idsH h:=by
 rw [zCq hk,zF0 hk,e];rfl
theorem zC2{h:Hs}(hk:k<h.length){x:RqD}(e:h.getD k none=some (x,i)):(x.id::idsH (h.set k none)).Perm (idsH h):=by
 rw [zCq hk,zF0 hk,e]
 simp only [Option.map_none,Option.toList_none,List.append_nil,Option.map_some,Option.toList_some,List.append_assoc,List.singleton_append]
 exact List.perm_middle.symm
theorem zIY{h:Hs}(hk:k<h.length)(e:h.getD k none=none)(x:RqD)(i:Nat):(x.id::idsH h).Perm (idsH (h.set k (some (x,i)))):=by
 rw [zCq hk,zF0 hk,e]
 simp only [Option.map_none,Option.toList_none,List.append_nil,Option.map_some,Option.toList_some,List.append_assoc,List.singleton_append]
 exact List.perm_middle.symm
theorem zAo{h:Hs}{p:RqD×Nat}(e:h.getD k none=some p):k<h.length∧some p∈h:=by
 have q_:=Nat.lt_or_ge k h.length
 rcases q_ with hk|hk
 ·refine⟨hk,?_⟩
  rw [List.getD_eq_getElem?_getD,List.getElem?_eq_getElem hk] at e
  exact e ▸ List.getElem_mem hk
 ·rw [List.getD_eq_getElem?_getD,List.getElem?_eq_none hk] at e;cases e
theorem zAV{h:Hs}{o:Option (RqD×Nat)}{x:RqD}(hm:some (x,i)∈h.set k o):some (x,i)∈h∨o=some (x,i):=by
 have q_:=List.mem_or_eq_of_mem_set hm
 rcases q_ with h1|h1
 ·exact .inl h1
 ·exact .inr h1.symm
theorem zEU{h:Hs}(e:freeS h=some k):k<h.length∧h.getD k none=none:=by
 unfold freeS at e
 rw [List.findIdx?_eq_some_iff_getElem] at e
 obtain⟨hk,h1,_⟩:=e
 refine⟨hk,?_⟩
 rw [List.getD_eq_getElem?_getD,List.getElem?_eq_getElem hk]
 simpa using h1
theorem zCA{c:CfD}(hc:CfOk c):∀(l:List RqD) (h:Hs),SvOk g c ⟨l,h⟩→SvOk g c ⟨(admitS l h).1,(admitS l h).2⟩∧(idsH (admitS l h).2++idsW (admitS l h).1).Perm (idsH h++idsW l)
 |[],h,s=>⟨s,.refl _⟩
 |x::r,h,s=>by
  unfold admitS
  cases e:freeS h with
  |none=>exact⟨s,.refl _⟩
  |some k =>
   have q_:=zEU e
   obtain⟨hk,hn⟩:=q_
   have hp:(idsH (h.set k (some (x,0)))++idsW r).Perm (idsH h++idsW (x::r)):=by
    refine((zIY hk hn x 0).symm.append_right _).trans ?_
    show (x.id::idsH h++idsW r).Perm (idsH h++(x.id::idsW r))
    exact List.perm_middle.symm
   have s':SvOk g c ⟨r,h.set k (some (x,0))⟩:=by
    refine⟨by simpa using s.len,by have:=s.wl;simp at this ⊢;omega,fun y hy=>s.wait y (List.mem_cons_of_mem _ hy),fun y i hy=>?_,hp.nodup_iff.2 s.ids,?_⟩
    ·have q_:=zAV hy
     rcases q_ with h1|h1
     ·exact s.held y i h1
     ·cases h1;exact⟨s.wait x List.mem_cons_self,by have:=hc.budget.1;omega⟩
    ·refine zDs (fun w=>?_) s.pool
     have:=zCJ (g:=g) (W:=c.workers) (w:=w) hk (some (x,0))
     rw [zIJ] at this;dsimp only;omega
   have:=zCA hc r _ s'
   exact⟨this.1,this.2.trans hp⟩
theorem zB1{c : CfD}{h : Hs} : (h.getD k none = none ∧ stepS g c h k = (h, none)) ∨ ∃ x i, h.getD k none = some (x, i) ∧
    ((overS g c (h.set k (some (x, i + 1))) = true ∧ stepS g c h k = (h.set k none, some (repB x.id 250 zAn))) ∨
     (overS g c (h.set k (some (x, i + 1))) = false ∧ (doneL g x.q (sts g x.q k (i + 1)) (mls g x.q k (i + 1))).2 = true ∧ stepS g c h k = (h.set k none, some (repB x.id 0 (doneL g x.q (sts g x.q k (i + 1)) (mls g x.q k (i + 1))).1))) ∨
     (overS g c (h.set k (some (x, i + 1))) = false ∧ (doneL g x.q (sts g x.q k (i + 1)) (mls g x.q k (i + 1))).2 = false ∧ c.budget ≤ i + 1 ∧ stepS g c h k = (h.set k none, some (repB x.id 251 zAn))) ∨
     (overS g c (h.set k (some (x, i + 1))) = false ∧ (doneL g x.q (sts g x.q k (i + 1)) (mls g x.q k (i + 1))).2 = false ∧ i + 1 < c.budget ∧ stepS g c h k = (h.set k (some (x, i + 1)), none))) := by
  unfold stepS
  cases e : h.getD k none with
  | none => exact .inl ⟨rfl, rfl⟩
  | some p =>
    obtain ⟨x, i⟩ := p
    refine .inr ⟨x, i, rfl, ?_⟩
    dsimp only
    by_cases h1 : overS g c (h.set k (some (x, i + 1))) = true
    · exact .inl ⟨h1, by rw [if_pos h1]⟩
    · right
      rw [if_neg h1]
      have h1' : overS g c (h.set k (some (x, i + 1))) = false := by simpa using h1
      by_cases h2 : (doneL g x.q (sts g x.q k (i + 1)) (mls g x.q k (i + 1))).2 = true
      · exact .inl ⟨h1', h2, by rw [if_pos h2]⟩
      · right
        rw [if_neg h2]
        have h2' : (doneL g x.q (sts g x.q k (i + 1)) (mls g x.q k (i + 1))).2 = false := by simpa using h2
        by_cases h3 : c.budget ≤ i + 1
        · exact .inl ⟨h1', h2', h3, by rw [if_pos h3]⟩
        · exact .inr ⟨h1', h2', by omega, by rw [if_neg h3]⟩
noncomputable def repIds (g:GrD) (c:CfD) (h:Hs) (k:Nat):List Int:=match h.getD k none,(stepS g c h k).2 with
 |some (x,_),some _=>[x.id]
 |_,_=>[]
theorem zDB{c:CfD}{h:Hs}{l:List RqD}(k:Nat)(s:SvOk g c ⟨l,h⟩):SvOk g c ⟨l,(stepS g c h k).1⟩∧(repIds g c h k++idsH (stepS g c h k).1).Perm (idsH h):=by
 have q_:=zB1 (g:=g) (c:=c) (h:=h) (k:=k)
 rcases q_ with ⟨e,h1⟩|⟨x,i,e,h1⟩
 ·rw [h1];refine⟨s,?_⟩
  unfold repIds;rw [e];exact .refl _
 ·have q_:=zAo e
  obtain⟨hk,hm⟩:=q_
  have hx:=s.held x i hm
  have drop:∀t,stepS g c h k=(h.set k none,some t)→SvOk g c ⟨l,(stepS g c h k).1⟩∧(repIds g c h k++idsH (stepS g c h k).1).Perm (idsH h):=fun t ht=>by
   unfold repIds
   rw [ht,e]
   refine⟨⟨by simpa using s.len,s.wl,s.wait,fun y j hy=>?_,?_,zDs (zC7 hk) s.pool⟩,zC2 hk e⟩
   ·have q_:=zAV hy
    rcases q_ with h2|h2
    ·exact s.held y j h2
    ·cases h2
   ·have:=((zC2 hk e).append_right (idsW l)).nodup_iff.2 s.ids
    rw [List.cons_append,List.nodup_cons] at this
    exact this.2
  rcases h1 with ⟨_,h2⟩|⟨_,_,h2⟩|⟨_,_,_,h2⟩|⟨ho,_,hb,h2⟩
  ·exact drop _ h2
  ·exact drop _ h2
  ·exact drop _ h2
  ·unfold repIds
   rw [h2,e]
   refine⟨⟨by simpa using s.len,s.wl,s.wait,fun y j hy=>?_,by rw [zHM hk e];exact s.ids,ho⟩,by rw [zHM hk e];exact .refl _⟩
   have q_:=zAV hy
   rcases q_ with h3|h3
   ·exact s.held y j h3
   ·cases h3;exact⟨hx.1,hb⟩
noncomputable def tickIds (g:GrD) (c:CfD):List Nat→Hs→List Int
 |[],_=>[]
 |k::r,h=>repIds g c h k++tickIds g c r (stepS g c h k).1
theorem zJB{c:CfD}{l:List RqD}:∀(ks:List Nat) (h:Hs),SvOk g c ⟨l,h⟩→SvOk g c ⟨l,(stepsS g c ks h).1⟩∧(tickIds g c ks h++idsH (stepsS g c ks h).1).Perm (idsH h)
 |[],h,s=>⟨s,.refl _⟩
 |k::r,h,s=>by
  have q_:=zDB k s
  obtain⟨s1,p1⟩:=q_
  have q_:=zJB r _ s1
  obtain⟨s2,p2⟩:=q_
  refine⟨s2,?_⟩
  show (repIds g c h k++tickIds g c r (stepS g c h k).1++idsH (stepsS g c r (stepS g c h k).1).1).Perm _
  rw [List.append_assoc]
  exact(p2.append_left _).trans p1
theorem zOb{c:CfD}(hc:CfOk c){s:SvD}(h:SvOk g c s):SvOk g c (tickS g c s).1 ∧
  (tickIds g c (usedS (admitS s.wait s.held).2) (admitS s.wait s.held).2++(idsH (tickS g c s).1.held++idsW (tickS g c s).1.wait)).Perm (idsH s.held++idsW s.wait):=by
 have q_:=zCA hc s.wait s.held h
 obtain⟨s1,p1⟩:=q_
 have q_:=zJB (usedS (admitS s.wait s.held).2) _ s1
 obtain⟨s2,p2⟩:=q_
 refine⟨s2,?_⟩
 rw [←List.append_assoc]
 exact(p2.append_right _).trans p1
theorem zKV{l:List RqD}{id:Int}(e:waitAt l id=some k):∃hk:k<l.length,l[k].id=id:=by
 unfold waitAt at e
 rw [List.findIdx?_eq_some_iff_getElem] at e
 obtain⟨hk,h1,_⟩:=e
 exact⟨hk,by simpa using h1⟩
theorem zId{l:List RqD}{id:Int}:waitAt l id=none↔id∉idsW l:=by
 unfold waitAt idsW
 rw [List.findIdx?_eq_none_iff]
 simp only [decide_eq_false_iff_not,List.mem_map,not_exists,not_and]
theorem zKt{h:Hs}{id:Int}(e:heldAt h id=some k):∃x i,h.getD k none=some (x,i)∧x.id=id:=by
 unfold heldAt at e
 rw [List.findIdx?_eq_some_iff_getElem] at e
 obtain⟨hk,h1,_⟩:=e
 split at h1
 ·rename_i x i he
  exact⟨x,i,by rw [List.getD_eq_getElem?_getD,List.getElem?_eq_getElem hk,he];rfl,by simpa using h1⟩
 ·cases h1
theorem zHG{h:Hs}{id:Int}:heldAt h id=none↔id∉idsH h:=by
 unfold heldAt
 rw [List.findIdx?_eq_none_iff,zMH]
 constructor
 ·rintro h1 ⟨x,i,hm,e⟩
  have:=h1 _ hm
  simp [e] at this
 ·intro h1 o ho
  match o,ho with
  |none,_=>rfl
  |some (x,i),ho=>exact decide_eq_false fun e=>h1 ⟨x,i,ho,e⟩
theorem zKh{c:CfD}{s:SvD}(h:SvOk g c s)(id:Int):SvOk g c (backS s id).1 ∧
  ((∃e:(backS s id).2=253,(id::(idsH (backS s id).1.held++idsW (backS s id).1.wait)).Perm (idsH s.held++idsW s.wait))∨((backS s id).2=141∧(backS s id).1=s∧id∉idsH s.held++idsW s.wait)):=by
 unfold backS
 cases e:waitAt s.wait id with
 |some k =>
  have q_:=zKV e
  obtain⟨hk,hid⟩:=q_
  have hp:(id::idsW (s.wait.eraseIdx k)).Perm (idsW s.wait):=by
   unfold idsW
   have h1:(s.wait[k]::s.wait.eraseIdx k).Perm s.wait:=by
    rw [List.eraseIdx_eq_take_drop_succ]
    have e:s.wait.take k++s.wait[k]::s.wait.drop (k+1)=s.wait:=by rw [←List.drop_eq_getElem_cons hk,List.take_append_drop]
    have:=List.perm_middle (a:=s.wait[k]) (l₁:=s.wait.take k) (l₂:=s.wait.drop (k+1))
    exact this.symm.trans (by rw [e])
   have:=h1.map (·.id)
   rw [List.map_cons,hid] at this
   exact this
  have hpp:(id::(idsH s.held++idsW (s.wait.eraseIdx k))).Perm (idsH s.held++idsW s.wait):=List.perm_middle.symm.trans (hp.append_left _)
  refine⟨⟨h.len,?_,fun x hx=>h.wait x (List.mem_of_mem_eraseIdx hx),h.held,?_,h.pool⟩,.inl ⟨rfl,hpp⟩⟩
  ·have:=h.wl;have:=List.length_eraseIdx_le s.wait k;dsimp only;omega
  ·have:=hpp.nodup_iff.2 h.ids
   exact(List.nodup_cons.1 this).2
 |none =>
  dsimp only
  cases e2:heldAt s.held id with
  |some k =>
   have q_:=zKt e2
   obtain⟨x,i,hk,hid⟩:=q_
   have q_:=zAo hk
   obtain⟨hkl,hm⟩:=q_
   have hp:=zC2 hkl hk
   rw [hid] at hp
   have hpp:(id::(idsH (s.held.set k none)++idsW s.wait)).Perm (idsH s.held++idsW s.wait):=hp.append_right _
   refine⟨⟨by simpa using h.len,h.wl,h.wait,fun y j hy=>?_,(List.nodup_cons.1 (hpp.nodup_iff.2 h.ids)).2,zDs (zC7 hkl) h.pool⟩,.inl ⟨rfl,hpp⟩⟩
   have q_:=zAV hy
   rcases q_ with h3|h3
   ·exact h.held y j h3
   ·cases h3
  |none =>
   refine⟨h,.inr ⟨rfl,rfl,fun hm=>?_⟩⟩
   have q_:=List.mem_append.1 hm
   rcases q_ with h1|h1
   ·exact zHG.1 e2 h1
   ·exact zId.1 e h1
theorem ask_ok{c:CfD}{s:SvD}(h:SvOk g c s){x:RqD}(hid:0≤x.id∧x.id≤2147483647):
  ((askS g c s x (QyIs x.q g.n)).2=0∧(askS g c s x (QyIs x.q g.n)).1=⟨s.wait++[x],s.held⟩∧SvOk g c ⟨s.wait++[x],s.held⟩∧x.id∉idsH s.held++idsW s.wait) ∨
  ((askS g c s x (QyIs x.q g.n)).2=180∨(askS g c s x (QyIs x.q g.n)).2=150∨(askS g c s x (QyIs x.q g.n)).2=252)∧(askS g c s x (QyIs x.q g.n)).1=s:=by
 unfold askS
 by_cases h0:QyIs x.q g.n
 case neg=>rw [if_neg h0];exact .inr ⟨.inl rfl,rfl⟩
 rw [if_pos h0]
 cases e:heldAt s.held x.id with
 |some k=>exact .inr ⟨.inr (.inl rfl),rfl⟩
 |none =>
  rw [if_neg (by simp)]
  cases e2:waitAt s.wait x.id with
  |some k=>exact .inr ⟨.inr (.inl rfl),rfl⟩
  |none =>
   rw [if_neg (by simp)]
   by_cases h3:c.queue≤s.wait.length
   ·rw [if_pos h3];exact .inr ⟨.inr (.inr rfl),rfl⟩
   ·rw [if_neg h3]
    have hn:x.id∉idsH s.held++idsW s.wait:=fun hm=>by
     have q_:=List.mem_append.1 hm
     rcases q_ with h1|h1
     ·exact zHG.1 e h1
     ·exact zId.1 e2 h1
    refine .inl ⟨rfl,rfl,⟨h.len,by simp;omega,fun y hy=>?_,h.held,?_,h.pool⟩,hn⟩
    ·have q_:=List.mem_append.1 hy
     rcases q_ with h1|h1
     ·exact h.wait y h1
     ·rw [List.mem_singleton] at h1;subst h1;exact⟨h0,hid⟩
    ·show (idsH s.held++(s.wait++[x]).map (·.id)).Nodup
     rw [List.map_append,←List.append_assoc]
     have:(idsH s.held++idsW s.wait++[x.id]).Perm (x.id::(idsH s.held++idsW s.wait)):=List.perm_append_singleton ..
     exact this.nodup_iff.2 (List.nodup_cons.2 ⟨hn,h.ids⟩)
theorem zKn{c:CfD}{s:SvD}(h:SvOk g c s)(f:List UInt8):SvOk g c (comeS g c s f).1:=by
 unfold comeS
 split
 ·split <;> exact h
 ·rename_i x hx
  have hr:=zEd hx
  split
  ·exact(zKh h x.id).1
  ·have q_:=ask_ok (x:=x) h hr.2.1
   rcases q_ with ⟨h1,h2,h3,_⟩|⟨h1,h2⟩
   ·rw [if_pos h1,h2];exact h3
   ·rw [if_neg (by omega)];exact h
def newS (c:CfD):SvD:=⟨[],List.replicate c.slots none⟩
theorem zLH(n:Nat):idsH (List.replicate n none)=[]:=by
 unfold idsH
 rw [List.filterMap_eq_nil_iff]
 intro o ho
 rw [(List.mem_replicate.1 ho).2];rfl
theorem zLL(g:GrD)(W n w:Nat):liveW g W (List.replicate n none) w=0:=by
 rw [zF5]
 have:((List.range (List.replicate n (none:Option (RqD×Nat))).length).map fun k=>cntW g W w ((List.replicate n none).getD k none) k)=(List.range (List.replicate n (none:Option (RqD×Nat))).length).map fun _=>0:=by
  apply List.map_congr_left
  intro k _
  have:(List.replicate n (none:Option (RqD×Nat))).getD k none=none:=by
   rw [List.getD_eq_getElem?_getD,List.getElem?_replicate];split <;> rfl
  rw [this];rfl
 rw [this]
 clear this
 generalize (List.replicate n (none:Option (RqD×Nat))).length=m
 induction m with
 |zero=>rfl
 |succ m ih=>rw [List.range_succ,List.map_append,List.sum_append,ih];rfl
theorem new_ok(g:GrD)(c:CfD):SvOk g c (newS c):=by
 refine⟨by simp [newS],by simp [newS],by simp [newS],fun x i h=>?_,by simp [newS,zLH,idsW],?_⟩
 ·have:=(List.mem_replicate.1 h).2;cases this
 ·rw [←Bool.not_eq_true,zCN]
  rintro⟨w,_,h⟩
  have:liveW g c.workers (newS c).held w=0:=zLL g c.workers c.slots w
  omega
end Go.W
namespace Go.W
open Go Go.Proofs
open Enc (enc)
set_option maxRecDepth 10000
variable {B N i j k m n n2 n3:Nat} {P:Program} {a a2 a3:Option Addr} {g:GrD} {q:QyD} {s:List UInt8} {u w w':World}
theorem zAZ{n m:Int}:Sp PP F.df #[.int .i64 n,.int .i64 m] w fun v w'=>Tells (1≤n∧n≤m) v∧w'=w:=by
 refine en TBok rfl ?_
 refine ite (fun h1=>?_) (fun h1=>⟨.f fun h=>h1 h.1,rfl⟩)
 exact ite (fun h2=>⟨.t ⟨h1,h2⟩,rfl⟩) (fun h2=>⟨.f fun h=>h2 h.2,rfl⟩)
theorem zKK{id code:Int}{a:AnP}(h:RepOk (repOf id code a) a.hits):repB id code a=encR (repOf id code a) a.hits:=if_pos h
theorem zKJ{id code:Int}{a:AnP}(h:¬RepOk (repOf id code a) a.hits):repB id code a=[]:=if_neg h
theorem zBJ{id e:Int}:Sp PP F.dr #[.int .i64 id,.int .i64 e] w fun v w'=>v=txt (repB id e zAn)∧Stp w w':=by
 refine en TBok rfl ?_
 refine rbuild (cs:=enc (repOf id e zAn)) rfl ?_
 refine rcall (zCh (x:=repOf id e zAn) (l:=[]) (SlF.nil' _ _ _) (by simp)) ?_
 rintro _ w1 ⟨⟨hok,rfl⟩|⟨hno,rfl⟩,e1⟩
 ·exact⟨congrArg txt (zKK (a:=zAn) hok).symm,stp⟩
 ·exact⟨congrArg txt (zKJ (a:=zAn) hno).symm,stp⟩
end Go.W
namespace Go.W
open Go
variable {B N i j k m n n2 n3:Nat} {P:Program} {a a2 a3:Option Addr} {g:GrD} {q:QyD} {s:List UInt8} {u w w':World}
section
variable {g:GrD} {W:Nat} {h:Hs}
theorem zCS{slot:Int}{x:StD}(h:x∈sts g q slot i):x.key.slot=slot:=by
 have q_:=zAF.1 h
 obtain⟨j,_,h⟩:=q_
 exact(zAp.1 h).1
theorem zBe{o:Option (RqD×Nat)}{x:StD}(h:x∈sts1 g o k):x.key.slot=(k:Int):=by
 cases o with
 |none=>cases h
 |some p=>obtain⟨r,i⟩:=p;exact zCS h
theorem zEi(g:GrD)(o:Option (RqD×Nat))(k:Nat):SRis (sts1 g o k):=by
 cases o with
 |none=>exact .nil
 |some p=>obtain⟨r,i⟩:=p;exact zDD _
theorem zF7{x:StD}:x∈allS g h↔∃k,k<h.length∧x∈sts1 g (h.getD k none) k:=by
 unfold allS;rw [List.mem_flatMap];simp only [List.mem_range]
theorem zMg(g:GrD)(h:Hs):SRis (allS g h):=by
 unfold allS
 rw [SRis,List.pairwise_flatMap]
 refine⟨fun k _=>zEi g _ k,?_⟩
 exact List.pairwise_lt_range.imp fun hlt x hx y hy=>.inl (by rw [zBe hx,zBe hy];omega)
theorem zBH{x:StD}(hk:k<h.length)(hx:x.key.slot=(k:Int)):x∈allS g h↔x∈sts1 g (h.getD k none) k:=by
 rw [zF7]
 constructor
 ·rintro⟨j,_,h2⟩
  have:=zBe h2
  have q_:j=k:=by omega
  obtain rfl:=q_
  exact h2
 ·exact fun h2=>⟨k,hk,h2⟩
theorem zBr{x:StD}{o:Option (RqD×Nat)}(hk:k<h.length)(hx:x.key.slot≠(k:Int)):x∈allS g (h.set k o)↔x∈allS g h:=by
 rw [zF7,zF7]
 simp only [List.length_set]
 constructor
 ·rintro⟨j,h1,h2⟩
  have:=zBe h2
  rw [zAN hk,if_neg (by rintro rfl;exact hx this)] at h2
  exact⟨j,h1,h2⟩
 ·rintro⟨j,h1,h2⟩
  have:=zBe h2
  refine⟨j,h1,?_⟩
  rw [zAN hk,if_neg (by rintro rfl;exact hx this)]
  exact h2
def wkS (g:GrD) (W:Nat) (h:Hs) (k:Nat):List StD:=(allS g h).filter fun x=>decide (homW W x.key.v=k)
theorem zAG{x:StD}:x∈wkS g W h k↔x∈allS g h∧homW W x.key.v=k:=by simp [wkS]
theorem zBn(g:GrD)(W:Nat)(h:Hs)(k:Nat):SRis (wkS g W h k):=(zMg g h).filter _
theorem zKW(g:GrD)(W:Nat)(h:Hs)(k:Nat):(wkS g W h k).length=liveW g W h k:=rfl
def ButS (g:GrD) (W:Nat) (h:Hs) (k0:Nat) (Ls:Nat→List StD):Prop:=∀k,SRis (Ls k)∧∀x,x.key.slot≠(k0:Int)→(x∈Ls k↔x∈wkS g W h k)
theorem zMn(k0:Nat):ButS g W h k0 (wkS g W h):=fun k=>⟨zBn g W h k,fun _ _=>Iff.rfl⟩
theorem ButS.drop{k0:Nat}{Ls:Nat→List StD}(H:ButS g W h k0 Ls)(hk:k0<h.length)(k:Nat):dropS (Ls k) (k0:Int)=wkS g W (h.set k0 none) k:=by
 refine SRis.uniq ((H k).1.filter _) (zBn ..) fun x=>?_
 unfold dropS
 rw [List.mem_filter,decide_eq_true_eq,zAG]
 constructor
 ·rintro⟨h1,h2⟩
  have q_:=zAG.1 (((H k).2 x h2).1 h1)
  obtain⟨h3,h4⟩:=q_
  exact⟨(zBr hk h2).2 h3,h4⟩
 ·rintro⟨h1,h2⟩
  have hs:x.key.slot≠(k0:Int):=fun e=>by
   have h3:=(zBH (h:=h.set k0 none) (by simpa using hk) e).1 h1
   rw [zAN hk,if_pos rfl] at h3
   cases h3
  exact⟨((H k).2 x hs).2 (zAG.2 ⟨(zBr hk hs).1 h1,h2⟩),hs⟩
theorem of_wkS{k0:Nat}(hk:k0<h.length)(k:Nat):ofS (wkS g W h k) (k0:Int)=(sts1 g (h.getD k0 none) k0).filter fun x=>decide (homW W x.key.v=k):=by
 refine SRis.uniq ((zBn ..).filter _) ((zEi ..).filter _) fun x=>?_
 unfold ofS
 simp only [List.mem_filter,decide_eq_true_eq,zAG]
 constructor
 ·rintro⟨⟨h1,h2⟩,h3⟩;exact⟨(zBH hk h3).1 h1,h2⟩
 ·rintro⟨h1,h2⟩
  have h3:=zBe h1
  exact⟨⟨(zBH hk h3).2 h1,h2⟩,h3⟩
theorem sts1_v{o:Option (RqD×Nat)}{x:StD}(h:x∈sts1 g o k):0≤x.key.v:=by
 cases o with
 |none=>cases h
 |some p =>
  obtain⟨r,i⟩:=p
  have q_:=zAF.1 h
  obtain⟨j,_,h⟩:=q_
  have q_:=zAp.1 h
  obtain⟨_,_,_,v,hv,_⟩:=q_
  omega
theorem zIW{v:Int}(hW:1≤W):0≤homW W v∧homW W v<W:=by
 unfold homW
 exact⟨Int.emod_nonneg _ (by omega),Int.emod_lt_of_pos _ (by omega)⟩
theorem of_all{k0:Nat}(hk:k0<h.length)(hW:1≤W):((List.range W).flatMap fun k=>ofS (wkS g W h k) (k0:Int)).Perm (sts1 g (h.getD k0 none) k0):=by
 refine(List.perm_ext_iff_of_nodup ?_ (zEi ..).nodup).2 fun x=>?_
 ·rw [List.nodup_iff_pairwise_ne,List.pairwise_flatMap]
  refine⟨fun k _=>?_,List.pairwise_lt_range.imp fun hlt x hx y hy e=>?_⟩
  ·rw [←List.nodup_iff_pairwise_ne];exact((zBn ..).nodup).filter _
  ·subst e
   have h1:=(zAG.1 (List.mem_filter.1 hx).1).2
   have h2:=(zAG.1 (List.mem_filter.1 hy).1).2
   omega
 ·rw [List.mem_flatMap]
  simp only [of_wkS hk,List.mem_filter,decide_eq_true_eq,List.mem_range]
  constructor
  ·rintro⟨k,_,h1,_⟩;exact h1
  ·intro h1
   have h2:=zIW (W:=W) (v:=x.key.v) hW
   exact⟨(homW W x.key.v).toNat,by omega,h1,by omega⟩
def KeepI (g:GrD) (W:Nat) (h:Hs) (l:List StD) (j:Nat) (Ls:Nat→List StD):Prop:=∀k,SRis (Ls k)∧∀x,x∈Ls k↔x∈wkS g W h k∨(x∈l.take j∧homW W x.key.v=k)
theorem zLI(l:List StD):KeepI g W h l 0 (wkS g W h):=fun k=>⟨zBn ..,fun x=>by simp⟩
variable {x0:RqD} {i k0 j:Nat} {Ls:Nat→List StD}
abbrev aftS (h:Hs) (k0:Nat) (x0:RqD) (i:Nat):Hs:=h.set k0 (some (x0,i+1))
theorem aft_at(hk:k0<h.length){x:StD}(hs:x.key.slot=(k0:Int)):x∈allS g (aftS h k0 x0 i)↔x∈sts g x0.q k0 (i+1):=by
 rw [zBH (by simpa using hk) hs,zAN hk,if_pos rfl];rfl
theorem zNk(e:h.getD k0 none=some (x0,i)){x:StD}(hx:x∈allS g h):x∈allS g (aftS h k0 x0 i):=by
 have q_:=zAo e
 obtain⟨hk,_⟩:=q_
 by_cases hs:x.key.slot=(k0:Int)
 ·rw [aft_at hk hs]
  rw [zBH hk hs,e] at hx
  have q_:=zAF.1 hx
  obtain⟨j,h1,h2⟩:=q_
  exact zAF.2 ⟨j,by omega,h2⟩
 ·exact(zBr hk hs).2 hx
theorem KeepI.sub(e:h.getD k0 none=some (x0,i))(H:KeepI g W h (sts g x0.q k0 (i+1)) j Ls){x:StD}(hx:x∈Ls k):x∈wkS g W (aftS h k0 x0 i) k:=by
 have q_:=zAo e
 obtain⟨hk,_⟩:=q_
 have q_:=((H k).2 x).1 hx
 rcases q_ with h1|⟨h1,h2⟩
 ·have q_:=zAG.1 h1
  obtain⟨h3,h4⟩:=q_
  exact zAG.2 ⟨zNk e h3,h4⟩
 ·have h3:=List.mem_of_mem_take h1
  exact zAG.2 ⟨(aft_at hk (zCS h3)).2 h3,h2⟩
theorem KeepI.but(H:KeepI g W h (sts g x0.q k0 (i+1)) j Ls):ButS g W h k0 Ls:=fun k=>⟨(H k).1,fun x hs=>by
 rw [(H k).2]
 exact⟨fun h1=>h1.elim id fun h2=>absurd (zCS (List.mem_of_mem_take h2.1)) hs,.inl⟩⟩
def updL (Ls:Nat→List StD) (k:Nat) (L:List StD):Nat→List StD:=fun j=>if j=k then L else Ls j
theorem KeepI.put(e:h.getD k0 none=some (x0,i))(H:KeepI g W h (sts g x0.q k0 (i+1)) j Ls)(hj:j<(sts g x0.q k0 (i+1)).length){x:StD}(hx:(sts g x0.q k0 (i+1))[j]=x)(hm:mayX x)(hh:homW W x.key.v=k):
  ((putS' n (Ls k) x).2=140∧(putS' n (Ls k) x).1=Ls k∧n<liveW g W (aftS h k0 x0 i) k)∨((putS' n (Ls k) x).2≠140∧KeepI g W h (sts g x0.q k0 (i+1)) (j+1) (updL Ls k (putS' n (Ls k) x).1)):=by
 have q_:=zAo e
 obtain⟨hk,_⟩:=q_
 have hxm:x∈sts g x0.q k0 (i+1):=hx ▸ List.getElem_mem hj
 have hxw:x∈wkS g W (aftS h k0 x0 i) k:=zAG.2 ⟨(aft_at hk (zCS hxm)).2 hxm,hh⟩
 have htake:(sts g x0.q k0 (i+1)).take (j+1)=(sts g x0.q k0 (i+1)).take j++[x]:=by rw [List.take_succ_eq_append_getElem hj,hx]
 unfold putS'
 rw [if_pos hm]
 cases hs:hasS (Ls k) x.key with
 |some y =>
  right
  have q_:=zHF (H k).1 |>.1 hs
  obtain⟨hy,hyk⟩:=q_
  have hyx:y=x:=(zBn ..).inj (H.sub e hy) hxw hyk
  subst hyx
  refine⟨by dsimp only;decide,fun k'=>?_⟩
  dsimp only
  have e1:updL Ls k (Ls k) k'=Ls k':=by unfold updL;split <;> simp_all
  rw [e1]
  refine⟨(H k').1,fun z=>?_⟩
  rw [(H k').2,htake]
  constructor
  ·rintro(h1|⟨h1,h2⟩)
   ·exact .inl h1
   ·exact .inr ⟨List.mem_append_left _ h1,h2⟩
  ·rintro(h1|⟨h1,h2⟩)
   ·exact .inl h1
   ·have q_:=List.mem_append.1 h1
    rcases q_ with h3|h3
    ·exact .inr ⟨h3,h2⟩
    ·rw [List.mem_singleton] at h3;subst h3
     have:k'=k:=by omega
     subst this
     exact((H _).2 _).1 hy
 |none =>
  have hn:=zHE.1 hs
  dsimp only
  by_cases hf:n≤(Ls k).length
  ·left
   rw [if_pos hf]
   refine⟨rfl,rfl,?_⟩
   have e2:Ls k=(wkS g W (aftS h k0 x0 i) k).filter fun y=>decide (y∈Ls k):=by
    refine SRis.uniq (H k).1 ((zBn ..).filter _) fun z=>?_
    rw [List.mem_filter,decide_eq_true_eq]
    exact⟨fun hz=>⟨H.sub e hz,hz⟩,fun hz=>hz.2⟩
   have h3:((wkS g W (aftS h k0 x0 i) k).filter fun y=>decide (y∈Ls k)).length<(wkS g W (aftS h k0 x0 i) k).length:=by
    rw [List.length_filter_lt_length_iff_exists]
    exact⟨x,hxw,by simpa using fun hm=>hn x hm rfl⟩
   rw [←e2,zKW] at h3
   omega
  ·right
   rw [if_neg hf]
   refine⟨by dsimp only;decide,fun k'=>?_⟩
   by_cases hkk:k'=k
   ·subst hkk
    have e1:updL Ls k' (insS x (Ls k')) k'=insS x (Ls k'):=if_pos rfl
    rw [e1]
    refine⟨zD2 x (H k').1 hn,fun z=>?_⟩
    rw [(zBB x _).mem_iff,List.mem_cons,(H k').2,htake,List.mem_append,List.mem_singleton]
    constructor
    ·rintro(rfl|h1|⟨h1,h2⟩)
     ·exact .inr ⟨.inr rfl,hh⟩
     ·exact .inl h1
     ·exact .inr ⟨.inl h1,h2⟩
    ·rintro(h1|⟨h1|h1,h2⟩)
     ·exact .inr (.inl h1)
     ·exact .inr (.inr ⟨h1,h2⟩)
     ·exact .inl h1
   ·have e1:updL Ls k (insS x (Ls k)) k'=Ls k':=if_neg hkk
    rw [e1]
    refine⟨(H k').1,fun z=>?_⟩
    rw [(H k').2,htake,List.mem_append,List.mem_singleton]
    constructor
    ·rintro(h1|⟨h1,h2⟩)
     ·exact .inl h1
     ·exact .inr ⟨.inl h1,h2⟩
    ·rintro(h1|⟨h1|h1,h2⟩)
     ·exact .inl h1
     ·exact .inr ⟨h1,h2⟩
     ·subst h1;omega
theorem KeepI.end(e:h.getD k0 none=some (x0,i))(H:KeepI g W h (sts g x0.q k0 (i+1)) (sts g x0.q k0 (i+1)).length Ls):Ls=wkS g W (aftS h k0 x0 i):=by
 have q_:=zAo e
 obtain⟨hk,_⟩:=q_
 funext k
 refine SRis.uniq (H k).1 (zBn ..) fun x=>⟨fun hx=>H.sub e hx,fun hx=>?_⟩
 rw [(H k).2,List.take_length]
 have q_:=zAG.1 hx
 obtain⟨h1,h2⟩:=q_
 by_cases hs:x.key.slot=(k0:Int)
 ·exact .inr ⟨(aft_at hk hs).1 h1,h2⟩
 ·exact .inl (zAG.2 ⟨(zBr hk hs).1 h1,h2⟩)
end
theorem zNB{c:CfD}{s:SvD}(h:SvOk g c s){x:RqD}(e:s.held.getD k none=some (x,i)):SvOk g c ⟨s.wait,s.held.set k none⟩:=by
 have q_:=zAo e
 obtain⟨hk,hm⟩:=q_
 refine⟨by simpa using h.len,h.wl,h.wait,fun y j hy=>?_,?_,zDs (zC7 hk) h.pool⟩
 ·have q_:=zAV hy
  rcases q_ with h2|h2
  ·exact h.held y j h2
  ·cases h2
 ·have:=((zC2 hk e).append_right (idsW s.wait)).nodup_iff.2 h.ids
  rw [List.cons_append,List.nodup_cons] at this
  exact this.2
theorem zFD{α β:Type}{f:α→Option Int}{f':β→Option Int}{p:α→Bool}{p':β→Bool}{l:List α}{m:List β}{id:Int}(hp:∀x,p x=decide (f x=some id))(hp':∀x,p' x=decide (f' x=some id))(h:l.map f=m.map f'):l.findIdx? p=m.findIdx? p':=by
 have h1:l.findIdx? p=(l.map f).findIdx? fun o=>decide (o=some id):=by rw [List.findIdx?_map];congr 1;funext x;exact hp x
 have h2:m.findIdx? p'=(m.map f').findIdx? fun o=>decide (o=some id):=by rw [List.findIdx?_map];congr 1;funext x;exact hp' x
 rw [h1,h2,h]
theorem zG7{α β γ:Type}{f:α→γ}{f':β→γ}{l:List α}{m:List β}(hl:l.length=m.length)(h:∀i (h:i<l.length) (h':i<m.length),f l[i]=f' m[i]):l.map f=m.map f':=by
 apply List.ext_getElem (by simpa using hl)
 intro i h1 h2
 simp only [List.getElem_map]
 exact h i (by simpa using h1) (by simpa using h2)
theorem zMh{h:Hs}(hk:k<h.length)(e:h.getD k none=none)(x:RqD):allS g (h.set k (some (x,0)))=allS g h:=by
 unfold allS
 rw [List.length_set]
 congr 1
 funext j
 rw [zAN hk]
 by_cases hj:j=k
 ·subst hj;rw [if_pos rfl,e];rfl
 ·rw [if_neg hj]
theorem zOk{W:Nat}{h:Hs}(hk:k<h.length)(e:h.getD k none=none)(x:RqD):wkS g W (h.set k (some (x,0)))=wkS g W h:=by
 funext j;unfold wkS;rw [zMh hk e]
theorem zLw{c:CfD}(hc:CfOk c){x:RqD}{r:List RqD}{h:Hs}(s:SvOk g c ⟨x::r,h⟩)(e:freeS h=some k):SvOk g c ⟨r,h.set k (some (x,0))⟩:=by
 have q_:=zEU e
 obtain⟨hk,hn⟩:=q_
 have hp:(idsH (h.set k (some (x,0)))++idsW r).Perm (idsH h++idsW (x::r)):=by
  refine((zIY hk hn x 0).symm.append_right _).trans ?_
  show (x.id::idsH h++idsW r).Perm (idsH h++(x.id::idsW r))
  exact List.perm_middle.symm
 refine⟨by simpa using s.len,by have:=s.wl;simp at this ⊢;omega,fun y hy=>s.wait y (List.mem_cons_of_mem _ hy),fun y i hy=>?_,hp.nodup_iff.2 s.ids,?_⟩
 ·have q_:=zAV hy
  rcases q_ with h1|h1
  ·exact s.held y i h1
  ·cases h1;exact⟨s.wait x List.mem_cons_self,by have:=hc.budget.1;omega⟩
 ·refine zDs (fun w=>?_) s.pool
  have:=zCJ (g:=g) (W:=c.workers) (w:=w) hk (some (x,0))
  rw [zIJ] at this;dsimp only;omega
end Go.W
namespace Go.W
open Go Go.Proofs
open Enc (enc)
set_option maxRecDepth 10000
variable {B N i j k m n n2 n3:Nat} {P:Program} {a a2 a3:Option Addr} {g:GrD} {q:QyD} {s:List UInt8} {u w w':World}

def zeroQ:RQ:=⟨0,0,0,⟨none,0,0⟩,0,0⟩
def zeroR:RReq:=⟨0,0,zeroQ⟩
def zeroH:RHeld:=⟨false,zeroR⟩
def freeAt (l:List RHeld):Option Nat:=l.findIdx? (fun h=>!h.used)
def putH (l:List RHeld) (x:RReq):Int×List RHeld×Int:=match freeAt l with
 |some k=>(k,l.set k ⟨true,x⟩,0)
 |none=>(0,[],140)
def dropH (l:List RHeld) (i:Int):List RHeld×Int:=
 if i<0∨(l.length:Int)≤i then ([],1) else if (l.getD i.toNat zeroH).used then (l.set i.toNat zeroH,0) else ([],141)
def foundAt (l:List RHeld) (id:Int):Option Nat:=l.findIdx? (fun h=>h.used && decide (h.r.id=id))
def findV (o:Option Nat):Int×Bool:=match o with
 |some k=>(k,true)
 |none=>(0,false)
def newH (n:Int):List RHeld×Int:=if n<1∨64<n then ([],1) else (List.replicate n.toNat zeroH,0)
def usedAt (l:List RHeld) (n:Nat):List Nat:=selN (fun i=>(l.getD i zeroH).used) n
def usedH (l:List RHeld):List Int:=(usedAt l l.length).map fun k:Nat=>(k:Int)
theorem zHC{α:Type}{p:α→Bool}{l:List α}(hk:k<l.length)(h1:p l[k]=true)(h2:∀j,(hj:j<k)→p (l[j]'(by omega))=false):l.findIdx? p=some k:=by
 rw [List.findIdx?_eq_some_iff_getElem];exact⟨hk,h1,fun j hj=>by simpa using h2 j hj⟩
theorem zHB{α:Type}{p:α→Bool}{l:List α}(h:∀j,(hj:j<l.length)→p l[j]=false):l.findIdx? p=none:=by
 rw [List.findIdx?_eq_none_iff]
 intro x hx
 have q_:=List.mem_iff_getElem.1 hx
 obtain⟨j,hj,rfl⟩:=q_
 exact h j hj
theorem zJw{n:Int}:Sp PP F.c2 #[.int .i64 n] w fun v w'=>(∃v',v=.tuple #[v',.int .i64 (newH n).2]∧Own w.heap.size E.qz w' v' (newH n).1)∧Stp w w':=by
 refine en TBok rfl ?_
 unfold newH
 refine ite (fun h1=>?_) (fun h1=>?_)
 ·rw [if_pos (.inl h1)];exact⟨⟨_,rfl,Own.nil _ _ _⟩,stp⟩
 refine ite (fun h2=>?_) (fun h2=>?_)
 ·rw [if_pos (.inr h2)];exact⟨⟨_,rfl,Own.nil _ _ _⟩,stp⟩
 rw [if_neg (by omega)]
 have q_:=Int.eq_ofNat_of_zero_le (show (0:Int)≤n by omega)
 obtain⟨k,rfl⟩:=q_
 rw [Int.toNat_natCast]
 refine rmk zeroH rfl rfl (by omega) fun g w1 O1 s1 _=>?_
 exact⟨⟨_,rfl,O1⟩,stp⟩
def plc (l:List RReq) (id:Int):Option Nat:=l.findIdx? (fun r=>decide (r.id=id))
theorem zMK{l:List RReq}{id:Int}(h:∀r∈l,r.id≠id):plc l id=none:=by
 unfold plc;rw [List.findIdx?_eq_none_iff];simpa using h
theorem zML{l:List RReq}{id:Int}(hk:k<l.length)(h1:l[k].id=id)(h2:∀j,(hj:j<k)→(l[j]'(by omega)).id≠id):plc l id=some k:=by
 unfold plc;rw [List.findIdx?_eq_some_iff_getElem];exact⟨hk,by simpa using h1,fun j hj=>by simpa using h2 j hj⟩
theorem plc_lt{l:List RReq}{id:Int}(h:plc l id=some k):∃hk:k<l.length,l[k].id=id:=by
 unfold plc at h;rw [List.findIdx?_eq_some_iff_getElem] at h;obtain⟨hk,h1,_⟩:=h;exact⟨hk,by simpa using h1⟩
def plcV (o:Option Nat):Value:=match o with
 |some k=>.tuple #[.int .i64 k,.bool true]
 |none=>.tuple #[.int .i64 0,.bool false]
def putR (l:List RReq) (most:Int) (x:RReq):List RReq×Int:=
 if (plc l x.id).isSome then ([],150) else if most≤l.length then ([],252) else (l++[x],0)
def takeR (l:List RReq) (id:Int):List RReq×Bool:=match plc l id with
 |some k=>(l.take k++l.drop (k+1),true)
 |none=>(l,false)
theorem zJM{r:RReq}{id:Int}:Sp PP F.yj #[.int .i64 id,agg r] w fun v w'=>Tells (r.id=id) v∧Ext w w':=by
 refine en TBok rfl ?_
 refine rbox fun b w1 n=>?_
 exact rload1 ((At.blk n.blk).cell 0 rfl) (ite (fun h=>⟨.t h,n.ext⟩) (fun h=>⟨.f h,n.ext⟩))
theorem zDK{c:Nat}{l:List RReq}{g:FuncId}{first cap:List Value}{p:RReq→Prop}(h:SlF w (.slice a n c) l)(hn:l.length≤1000000)
  (hf:∀r w1,r∈l→Ext w w1→Sp PP g (first++[agg r]++cap).toArray w1 fun v w2=>Tells (p r) v∧Ext w1 w2):
  Sp PP F.yu #[.slice a n c,.func (.func g) first.toArray cap.toArray] w fun v w' =>
   ((∃k:Nat,v=.int .i64 k∧∃hk:k<l.length,p l[k]∧∀j,(hj:j<k)→¬p (l[j]'(by omega)))∨(v=.int .i64 (-1)∧∀r∈l,¬p r))∧Ext w w':=by
 have q_:=h.len
 obtain rfl:=q_
 refine en TBok rfl ?_
 refine loop1 TBok 6 [4,5,7] 8 (fun i w'=>∃k:Nat,k≤l.length∧i=.int .i64 k∧(∀j,(hj:j<k)→(hl:j<l.length)→¬p l[j])∧Ext w w') (fun i _=>l.length - (Go.RowKit.intOf i).toNat) rfl ⟨0,by omega,rfl,by omega,Fr.refl _ _⟩ ?_
 rintro i g w' ⟨k,hk,rfl,hb,e⟩
 refine ite (fun hlt=>?_) (fun hge=>?_)
 ·have hka:k<l.length:=by omega
  refine rix (h.ext e) (x:=l[k]) (by simp) fun b o A=>?_
  refine rloadA A rfl ?_
  refine rcall (hf l[k] w' (by simp) e) ?_
  rintro v w2 ⟨⟨rfl,hp⟩|⟨rfl,hp⟩,e2⟩
  ·exact⟨.inl ⟨k,rfl,hka,hp,fun j hj=>hb j hj (by omega)⟩,e.t e2⟩
  ·refine rar (by omega) ⟨⟨k+1,by omega,rfl,fun j hj hl=>?_,e.t e2⟩,?_⟩
   ·have q_:=Nat.lt_or_ge j k
    rcases q_ with h'|h'
    ·exact hb j h' hl
    ·have q_:j=k:=by omega
     obtain rfl:=q_
     exact hp
   ·show _ - (k+1)<_ - k;omega
 ·refine⟨.inr ⟨rfl,fun r hr=>?_⟩,e⟩
  have q_:=List.mem_iff_getElem.1 hr
  obtain⟨j,hj,rfl⟩:=q_
  exact hb j (by omega) hj
theorem zEB{c:Nat}{l:List RReq}{id:Int}(h:SlF w (.slice a n c) l)(hn:l.length≤1000000):
  Sp PP F.cq #[.slice a n c,.int .i64 id] w fun v w'=>v=plcV (plc l id)∧Ext w w':=by
 have q_:=h.len
 obtain rfl:=q_
 refine en TBok rfl ?_
 refine rcall (zDK (g:=F.yj) (first:=[.int .i64 id]) (cap:=[]) (p:=fun r=>r.id=id) h hn fun r w1 _ _=>zJM) ?_
 rintro v w' ⟨⟨k,rfl,hk,h1,h2⟩|⟨rfl,h1⟩,e⟩
 ·refine rmax (ite (fun _=>?_) (fun h=>absurd (Int.natCast_nonneg k) h))
  rw [zML hk h1 h2,Int.max_eq_left (by omega)];exact⟨rfl,e⟩
 ·refine rmax (ite (fun h=>absurd h (by decide)) (fun _=>?_))
  rw [zMK h1];exact⟨rfl,e⟩
theorem zBm{b:Option Addr}{na ca nb cb:Nat}{la lb:List RReq}(ha:SlF w (.slice a na ca) la)(hb:SlF w (.slice b nb cb) lb)(hn:la.length≤1000000∧lb.length≤1000000):
  Sp PP F.d7 #[.slice a na ca,.slice b nb cb] w fun v w'=>Own w.heap.size E.qd w' v (la++lb)∧Ext w w':=by
 have q_:=ha.len
 obtain rfl:=q_
 have q_:=hb.len
 obtain rfl:=q_
 refine en TBok rfl ?_
 refine rar (by omega) ?_
 refine rmk' (n:=la.length+lb.length) (B:=w.heap.size) zeroR rfl rfl (Nat.le_refl _) (by omega) fun g w1 O1 e1 hg=>?_
 refine rcp (u:=w) (lo:=0) rfl O1 (ha.ext e1) (.inr ⟨g,rfl,by simp⟩) (by simp) (by omega) fun w2 O2 f2 _ _=>?_
 have e2:=Fr.st e1 f2 fun i hi=>hi.1
 refine rslO (P:=PP) (t:=E.ym) (n:=la.length+lb.length) (some la.length) none O2 (by simp) (by simp) fun a' c' hd=>?_
 refine rcp (u:=w) (lo:=la.length) rfl O2 (hb.ext e2) hd (by simp) (by simp) fun w3 O3 f3 _ _=>?_
 refine⟨?_,Fr.st e2 f3 fun i hi=>hi.1⟩
 have:List.take la.length (List.take 0 (List.replicate (la.length+lb.length) zeroR)++la++List.drop (0+la.length) (List.replicate (la.length+lb.length) zeroR))++lb ++
   List.drop (la.length+lb.length) (List.take 0 (List.replicate (la.length+lb.length) zeroR)++la++List.drop (0+la.length) (List.replicate (la.length+lb.length) zeroR))=la++lb:=by
  simp
 rw [this] at O3
 exact O3
theorem zGK(l:List RReq)(id:Int):(plc l id=none∧plcV (plc l id)=.tuple #[.int .i64 0,.bool false])∨∃k,plc l id=some k∧plcV (plc l id)=.tuple #[.int .i64 (k:Nat),.bool true]:=by
 cases h:plc l id with
 |none=>exact .inl ⟨rfl,rfl⟩
 |some k=>exact .inr ⟨k,rfl,rfl⟩
theorem zKa{c:Nat}{l:List RReq}{most:Int}{x:RReq}(h:SlF w (.slice a n c) l)(hn:l.length≤100000):
  Sp PP F.qaq #[.slice a n c,.int .i64 most,agg x] w fun v w'=>(∃v',v=.tuple #[v',.int .i64 (putR l most x).2]∧Own w.heap.size E.qd w' v' (putR l most x).1)∧Ext w w':=by
 have q_:=h.len
 obtain rfl:=q_
 refine en TBok rfl ?_
 refine rbox fun b w1 n1=>?_
 have A1:At w1 b 0 (enc x):=At.blk n1.blk
 refine rload1 (A1.cell 0 rfl) ?_
 refine rcall (zEB (h.ext n1.ext) (by omega)) ?_
 rintro v w2 ⟨rfl,e2⟩
 have E2:=n1.ext.t e2
 unfold putR
 have q_:=zGK l x.id
 rcases q_ with ⟨hp,hv⟩|⟨k,hp,hv⟩ <;> rw [hv,hp]
 ·refine ite (fun hm=>?_) (fun hm=>?_)
  ·simp only [Option.isSome_none,Bool.false_eq_true,if_false,hm,if_true]
   exact⟨⟨_,rfl,Own.nil _ _ _⟩,E2⟩
  ·simp only [Option.isSome_none,Bool.false_eq_true,if_false,hm]
   refine rloadA (A1.ext e2) rfl ?_
   refine rbs1 x rfl rfl (by decide) fun b4 w4 e4 _ S4=>?_
   refine rcall (zBm (lb:=[x]) (h.ext (E2.t e4.e)) S4 ⟨by omega,by simp⟩) ?_
   rintro v5 w5 ⟨O5,e5⟩
   exact⟨⟨_,rfl,O5.mono (E2.t e4.e).size⟩,(E2.t e4.e).t e5⟩
 ·simp only [Option.isSome_some,if_true]
  exact⟨⟨_,rfl,Own.nil _ _ _⟩,E2⟩
def nextR (l:List RReq):RReq×List RReq×Bool:=match l with
 |[]=>(zeroR,[],false)
 |x::r=>(x,r,true)
theorem zL9{α:Type}(l:List α):(l.drop 1).take (l.length - 1)=l.tail:=by
 rw [List.take_of_length_le (by simp),List.drop_one]
theorem zJK{c:Nat}{l:List RReq}(h:SlF w (.slice a n c) l)(hn:l.length≤100000):
  Sp PP F.qaa #[.slice a n c] w fun v w'=>(∃v',v=.tuple #[agg (nextR l).1,v',.bool (nextR l).2.2]∧Own w.heap.size E.qd w' v' (nextR l).2.1)∧Ext w w':=by
 have q_:=h.len
 obtain rfl:=q_
 refine en TBok rfl ?_
 refine ralloc fun b w1 n1=>?_
 refine ite (fun h0=>?_) (fun h0=>?_)
 ·have q_:l=[]:=List.eq_nil_of_length_eq_zero (by omega)
  obtain rfl:=q_
  refine rbuild (cs:=enc zeroR) rfl ?_
  refine rst n1.blk (vs:=enc zeroR) rfl rfl (by decide) (Enc.one _) fun w2 h2 f2 _=>?_
  refine rresA (cs:=enc zeroR) (At.blk h2) rfl ?_
  exact⟨⟨_,rfl,Own.nil _ _ _⟩,Fr.st n1.ext f2 fun i hi=>by rw [hi];exact n1.lo⟩
 ·obtain⟨x,r,rfl⟩:∃x r,l=x::r:=by cases l;exact absurd rfl h0;exact⟨_,_,rfl⟩
  refine drawR TBok mixed (fun i=>i=b) (upF 9 0) (by kernel_rfl) fun w2 e2 _=>?_
  have E2:=n1.ext.t e2.e
  refine tix (i:=0) (h.ext E2) (x:=x) rfl fun bb o A hbb=>?_
  have hne:bb≠b:=by
   have q_:=h.lt (by simp)
   obtain⟨b',h1,h2⟩:=q_
   rw [hbb] at h1;cases h1;have:=n1.lo;omega
  refine tloadA A rfl hne ?_
  refine tsl (some 1) none (h.ext E2) (by simp) (by simp) fun a' c' S'=>?_
  have S':SlF w2 (.slice a' ((x::r).length - 1) c') r:=by
   have:=S';simp only [Option.getD_none,Option.getD_some] at this;rw [zL9] at this;exact this
  refine rcall (zBm (la:=[]) (lb:=r) (SlF.nil w2) S' ⟨by simp,by simp at hn;omega⟩) ?_
  rintro v3 w3 ⟨O3,e3⟩
  refine⟨Fr.fr e3,?_⟩
  have hb2:=(e2.e.t e3).blk n1.blk
  refine rst hb2 (vs:=enc x) rfl rfl (Nat.le_refl 8) (Enc.one _) fun w4 h4 f4 _=>⟨f4,?_⟩
  refine rresA (cs:=enc x) (At.blk h4) rfl ?_
  refine⟨⟨v3,rfl,?_⟩,Fr.st (E2.t e3) f4 fun i hi=>by rw [hi];exact n1.lo⟩
  refine Own.mono (Own.fr (show Own _ _ _ _ r by simpa using O3) f4 fun i hi hv hd=>?_) E2.size
  have:=blk_lt (e2.e.blk n1.blk);omega
theorem zLU{α:Type}(l:List α)(k:Nat):(l.drop 0).take (k - 0)=l.take k:=by simp
theorem zLT{α:Type}(l:List α)(k:Nat):(l.drop k).take (l.length - k)=l.drop k:=by rw [List.take_of_length_le (by simp)]
theorem zJL{c:Nat}{l:List RReq}{id:Int}(h:SlF w (.slice a n c) l)(hn:l.length≤100000):
  Sp PP F.c9 #[.slice a n c,.int .i64 id] w fun v w'=>(∃v',v=.tuple #[v',.bool (takeR l id).2]∧Own w.heap.size E.qd w' v' (takeR l id).1)∧Ext w w':=by
 have q_:=h.len
 obtain rfl:=q_
 refine en TBok rfl ?_
 refine rcall (zEB h (by omega)) ?_
 rintro v w1 ⟨rfl,e1⟩
 unfold takeR
 have q_:=zGK l id
 rcases q_ with ⟨hp,hv⟩|⟨k,hp,hv⟩ <;> rw [hv,hp]
 ·refine rcall (zBm (lb:=[]) (h.ext e1) (SlF.nil w1) ⟨by omega,by simp⟩) ?_
  rintro v2 w2 ⟨O2,e2⟩
  exact⟨⟨v2,rfl,by simpa using O2.mono e1.size⟩,e1.t e2⟩
 ·have q_:=plc_lt hp
  obtain⟨hk,_⟩:=q_
  refine drawR TBok mixed (fun _=>False) (upF 10 0) (by kernel_rfl) fun w2 e2 _=>?_
  have E2:=e1.t e2.e
  refine tsl none (some k) (h.ext E2) (by simp) (by simp;omega) fun a1 c1 S1=>?_
  refine rar (by omega) ?_
  refine tsl (some (k+1)) none (h.ext E2) (by simp;omega) (by simp) fun a2 c2 S2=>?_
  simp only [Option.getD_none,Option.getD_some,zLU,zLT] at S1 S2
  refine rcall (zBm S1 S2 ⟨by simp;omega,by simp;omega⟩) ?_
  rintro v3 w3 ⟨O3,e3⟩
  exact⟨e3,⟨v3,rfl,O3.mono E2.size⟩,E2.t e3⟩
end Go.W
