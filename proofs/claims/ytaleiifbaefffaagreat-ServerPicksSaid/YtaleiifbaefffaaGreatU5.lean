/-
  Proved here: a part of the walks and plain laws of this claim (merged by a program of mine).
  Conditions: those that each fact names.
-/
import Derived.Test.YtaleiifbaefffaaGreatU4
namespace Go.W
open Go Go.Proofs
open Enc (enc)
set_option maxRecDepth 10000
variable {B i j k m n n3:Nat} {P:Program} {R:Nat → Prop} {a a' a3:Option Addr} {g:GrD} {ps:List Int} {q:QyD} {u w w' w1 w2:World}
section
variable {kx:Nat} {R:Nat→Prop} {B:Nat} {w0 w w':World} {bs:Nat} {g:GrD} {c:CfD} {s:SvD} {Ls:Nat→List StD} {K:SrvK} {wt hd:SV} {lw:List RReq} {lh:List RHeld} {lj:List RJob} {RW:Nat→Nat→Prop}
theorem zKz{hs:Hs}{k0:Nat}{a:RHeld}{j:RJob}{o:Option (RqD×Nat)}(hk:k0<hs.length)(H:∀k (h:k<lh.length) (h':k<lj.length),HeldOk kx u g lh[k] lj[k] (hs.getD k none) k)(h:HeldOk kx u g a j o k0):
  ∀k (h:k<(lh.set k0 a).length) (h':k<(lj.set k0 j).length),HeldOk kx u g (lh.set k0 a)[k] (lj.set k0 j)[k] ((hs.set k0 o).getD k none) k:=fun k h1 h2=>by
 rw [zAG hk]
 by_cases e:k=k0
 ·subst e
  rw [if_pos rfl,List.getElem_set_self,List.getElem_set_self];exact h
 ·rw [if_neg e,List.getElem_set_ne (Ne.symm e),List.getElem_set_ne (Ne.symm e)]
  exact H k (by simpa using h1) (by simpa using h2)
theorem heldsZ{hs:Hs}{k0:Nat}{a:RHeld}{j:RJob}(hk:k0<hs.length)(H:∀k (h:k<lh.length) (h':k<lj.length),HeldOk k0 u g lh[k] lj[k] (hs.getD k none) k)(ha:a.used=false:=by rfl):
  ∀k (h:k<(lh.set k0 a).length) (h':k<(lj.set k0 j).length),HeldOk 1000 u g (lh.set k0 a)[k] (lj.set k0 j)[k] ((hs.set k0 none).getD k none) k:=fun k h1 h2=>by
 rw [zAG hk]
 by_cases e:k=k0
 ·subst e
  rw [if_pos rfl,List.getElem_set_self,List.getElem_set_self];exact ha
 ·rw [if_neg e,List.getElem_set_ne (Ne.symm e),List.getElem_set_ne (Ne.symm e)]
  have h3:=H k (by simpa using h1) (by simpa using h2)
  cases e2:hs.getD k none with
  |none=>rw [e2] at h3;exact h3
  |some p=>obtain⟨d,i⟩:=p;rw [e2] at h3;exact⟨h3.1,h3.2.1,fun _=>h3.2.2 e⟩
theorem Stos.congr{W pool:Nat}{Ls':Nat→List StD}(T:Stos B w W K pool RW Ls)(h:∀k,k<W→Ls k=Ls' k):Stos B w W K pool RW Ls':=
 ⟨T.dis,fun k hk=>h k hk ▸ T.sto k hk,T.lt⟩
theorem bjD{v:Nat}(h:ownD B (.slice (some ⟨v,0,none⟩) n m) i):i=v:=by have:=h.2.1;cases this;rfl
set_option maxHeartbeats 1000000 in
theorem zCN{k0:Nat}{x:RqD}(S:SrvR k0 R B w bs g c s Ls K wt hd lw lh lj RW)(H:ButS g c.workers s.held k0 Ls)(hu:s.held.getD k0 none=some (x,i))(hB:B≤w.heap.size):
  Sp PP F.qv #[.pointer (some ⟨bs,0,none⟩),.int .i64 (k0:Int)] w fun _ w'=>SrvP (gR R w w') B w' bs g c ⟨s.wait,s.held.set k0 none⟩∧Fr (mutS bs K.bj c.workers RW) w w':=by
 have hk:=(zAC hu).1
 have F0:=S.fz.here
 have hlen:=S.so.len
 have hsl:=S.ci.slots
 have hW:=S.ci.workers
 have hkh:k0<lh.length:=by rw [F0.lhn];exact hk
 have hkj:k0<lj.length:=by rw [F0.ljn];exact hk
 have hus:lh[k0].used=true:=by
  have:=F0.helds k0 hkh hkj
  rw [hu] at this;exact this.1
 have hln:lh.length≤64:=by rw [F0.lhn];omega
 have D:=zHD (i:=(k0:Int)) F0.fh (by omega)
 have hdr:dropH lh (k0:Int)=(lh.set k0 zeroH,0):=by
  unfold dropH
  rw [if_neg (by omega),Int.toNat_natCast,zAs hkh,if_pos hus]
 rw [hdr] at D
 have hbj:=S.reg _ S.rj
 refine en TBok rfl ?_
 refine rld (B:=S.cell) rfl ?_
 refine rcall D ?_
 rintro _ w1 ⟨⟨v',rfl,O1⟩,e1⟩
 have q_:=O1.shape
 obtain⟨a1,c1,rfl⟩:=q_
 refine ite (fun _=>?_) (fun h=>absurd rfl h)
 refine rsto (B:=S.cell) (vs:=[.slice a1 (lh.set k0 zeroH).length c1]) rfl rfl rfl (sv1 _ _ _) fun w2 C2 f2 _=>?_
 have C2:Bk w2 bs (srvL c K wt ⟨a1,(lh.set k0 zeroH).length,c1⟩) E.qk:=C2
 refine rld (B:=C2) rfl ?_
 refine rbuild (cs:=enc zJob) rfl ?_
 have J2:=(S.jobs.up (w':=w1)).fr f2 (fun g _ hg h=>by cases hg;exact S.ne h.symm)
 refine rixO rfl J2 (x:=lj[k0]) (by simp) fun gj hgj _ _=>?_
 refine rstO' rfl zJob J2 hgj hkj rfl fun w3 J3 f3 _=>?_
 have f3:Fr (fun i=>i=K.bj) w2 w3:=f3.mono fun i _ hi=>bjD hi
 have f13:Fr (fun i=>i=bs∨i=K.bj) w1 w3:=(f2.mono fun i _ hi=>.inl hi).trans (f3.mono fun i _ hi=>.inr hi)
 have C3:=C2.fr f3 S.ne
 have Z1:Fz (mutS bs K.bj c.workers RW) (gR R w w1) w1 (SrvF 1000 g c K wt ⟨a1,(lh.set k0 zeroH).length,c1⟩ lw (lh.set k0 zeroH) (lj.set k0 zJob) ⟨s.wait,s.held.set k0 none⟩):=
  ((S.fz1 (w':=w1)).and (S.fzO O1 (Nat.le_refl _))).imp fun u ⟨Fa,Sh⟩ =>
   ⟨Fa.rows,Fa.pos,Fa.words,Fa.wk,Fa.fw,Sh,Fa.lwn,Fa.waits,by simp [Fa.lhn],by simp [Fa.ljn],heldsZ hk Fa.helds⟩
 have m13:Fr (mutS bs K.bj c.workers RW) w1 w3:=f13.mono fun i _ hi=>hi.elim .inl fun h=>.inr (.inl h)
 have z13:=f13.size
 have Z3:Fz (mutS bs K.bj c.workers RW) (gR R w w3) w3 _:=Z1.step m13 (fun _ _ h=>h) (fun i _ h=>h.imp id fun h=>by omega)
 have T3:Stos B w3 c.workers K c.pool RW Ls:=(S.st.up (w':=w1)).away f13 fun k hk i hi h=>by have:=(S.rw k hk i hi).2;omega
 have F3:=Z3.here
 have hwn:K.wk.n=c.workers:=by have:=F3.wk.len;simpa using this
 refine rld (B:=C3) rfl ?_
 refine cnt TBok 35 [7] 35 c.workers (fun j u=>∃RW',Stos B u c.workers K c.pool RW' (fun k=>if k<j then dropS (Ls k) k0 else Ls k)∧GrowR c.workers RW RW' w3.heap.size∧Fr (anyR c.workers RW) w3 u) rfl rfl
  ⟨RW,T3.congr fun k _=>by simp,.refl _,Fr.refl _ _⟩ ?_
 rintro j G u hj ⟨RW',T,GR,f⟩
 have Fu:=Z3 u (f.mono fun i _ h=>.inl (zBn h))
 refine ite (fun hlt=>?_) (fun hge=>?_)
 ·have hja:j<c.workers:=by (try dsimp only at hlt);omega
  refine rix Fu.wk (x:=⟨K.sb j⟩) (by simp [hja]) fun b1 o1 A1=>rload1 (A1.cell0 rfl) ?_
  have Tj:StoP (RW' j) B u (K.sb j) (K.sg j) c.pool (Ls j):=by have:=T.sto j hja;rwa [if_neg (Nat.lt_irrefl _)] at this
  refine rcall (zHF (s:=(k0:Int)) Tj) ?_
  rintro _ u1 ⟨rfl,S1,_,f1⟩
  refine rar (by omega) ⟨rfl,hja,updR RW' j (gR (RW' j) u u1),(T.put hja S1 f1).congr fun k _=>?_,GR.put f.size,GR.fr f hja f1⟩
  unfold updL
  dsimp only
  by_cases h1:k=j
  ·subst h1;rw [if_pos rfl,if_pos (by omega)]
  ·rw [if_neg h1]
   by_cases h2:k<j
   ·rw [if_pos h2,if_pos (by omega)]
   ·rw [if_neg h2,if_neg (by omega)]
 ·have hjw:j=c.workers:=by (try dsimp only at hge);omega
  subst hjw
  have T':Stos B u c.workers K c.pool RW' (wkS g c.workers (s.held.set k0 none)):=T.congr fun k hk2=>by rw [if_pos hk2];exact H.drop hk k
  have nbs:¬anyR c.workers RW bs:=fun⟨k,hk,h⟩=>(S.rw k hk _ h).2.1 rfl
  have nbj:¬anyR c.workers RW K.bj:=fun⟨k,hk,h⟩=>(S.rw k hk _ h).2.2 rfl
  have z1:=Le.size (a:=w) (b:=w1)
  refine⟨⟨K,wt,_,lw,_,_,RW',S.fin (w1:=w3) (by omega) (f.mono fun i _ h=>zBn h) hB (C3.fr f nbs) (J3.fr f fun g _ hg h=>by cases hg;exact nbj h) T' GR (zMo S.so hu) Z3⟩,?_⟩
  exact((Fr.fr (Le.e (a:=w) (b:=w1))).trans m13).trans (f.mono fun i _ h=>zBn h)
theorem zGI{k0:Nat}{x:RqD}(S:SrvZ R B w bs g c s Ls k0)(H:ButS g c.workers s.held k0 Ls)(hu:s.held.getD k0 none=some (x,i))(hB:B≤w.heap.size):
  Sp PP F.qv #[.pointer (some ⟨bs,0,none⟩),.int .i64 (k0:Int)] w fun _ w'=>SrvP (gR R w w') B w' bs g c ⟨s.wait,s.held.set k0 none⟩∧Fr R w w':=by
 obtain⟨K,wt,hd,lw,lh,lj,RW,S⟩:=S
 exact(zCN S H hu hB).mono fun v w' h=>⟨h.1,h.2.mono fun i _ h=>S.mut h⟩
theorem zLD{lw:List RReq}{l:List RqD}(hl:lw.length=l.length)(h:∀i (h:i<lw.length) (h':i<l.length),lw[i].id=l[i].id)(id:Int):plc lw id=waitAt l id:=
 zE1 (f:=fun r:RReq=>some r.id) (f':=fun r:RqD=>some r.id) (id:=id) (fun x=>by simp) (fun x=>by simp) (zGA hl fun i h1 h2=>by rw [h i h1 h2])
theorem zJ7{h:Hs}(h1:lh.length=h.length)(h2:lj.length=h.length)(H:∀k (h3:k<lh.length) (h':k<lj.length),HeldOk kx w g lh[k] lj[k] (h.getD k none) k)(id:Int):foundAt lh id=heldAt h id:=by
 refine zE1 (f:=fun r:RHeld=>if r.used then some r.r.id else none) (f':=fun o=>o.map fun p=>p.1.id) (id:=id) (fun x=>?_) (fun x=>?_) (zGA h1 fun i h3 h4=>?_)
 ·cases x.used <;> simp
 ·cases x <;> simp
 ·have:=H i h3 (by omega)
  rw [List.getD_eq_getElem?_getD,List.getElem?_eq_getElem h4,Option.getD_some] at this
  cases e:h[i] with
  |none=>rw [e] at this;simp only [HeldOk] at this;simp [this]
  |some p =>
   obtain⟨d,j⟩:=p
   rw [e] at this
   simp [this.1,this.2.1.id]
theorem SrvF.plc(Fa:SrvF kx g c K wt hd lw lh lj s u)(id:Int):plc lw id=waitAt s.wait id:=zLD Fa.lwn (fun i h h'=>(Fa.waits i h h').id) id
theorem SrvF.found(Fa:SrvF kx g c K wt hd lw lh lj s u)(id:Int):foundAt lh id=heldAt s.held id:=zJ7 Fa.lhn Fa.ljn Fa.helds id
theorem SrvR.small(S:SrvR kx R B w bs g c s Ls K wt hd lw lh lj RW):lw.length≤1000∧lh.length≤64:=by
 have Fa:=S.fz.here
 have:=S.so.len;have:=S.so.wl;have:=S.ci.slots;have:=S.ci.queue
 rw [Fa.lwn,Fa.lhn];omega
theorem SrvR.waits[L:Le w w1]{s':SvD}{a1:Option Addr}{c1:Nat}{lw':List RReq}(S:SrvR 1000 R B w bs g c s (wkS g c.workers s.held) K wt hd lw lh lj RW)(hB:B≤w.heap.size)(hs:s'.held=s.held)
  (C2:Bk w2 bs (srvL c K ⟨a1,lw'.length,c1⟩ hd) E.qk)(f2:Fr (fun i=>i=bs) w1 w2)(so:SvOk g c s')
  (Z1:Fz (mutS bs K.bj c.workers RW) (gR R w w1) w1 (SrvF 1000 g c K ⟨a1,lw'.length,c1⟩ hd lw' lh lj s')):SrvP (gR R w w2) B w2 bs g c s'∧∀u,Le u w1→Fr R u w2:=by
 have z:=L.e.size
 refine⟨⟨K,⟨a1,lw'.length,c1⟩,hd,lw',lh,lj,RW,?_⟩,fun u L2=>(Fr.fr L2.e).trans (f2.mono fun i _ h=>h ▸ S.rs)⟩
 rw [hs]
 refine S.fin z (f2.mono fun i _ h=>.inl h) hB C2 ?_ ?_ (.refl _) so Z1
 ·exact(S.jobs.up (w':=w1)).fr f2 fun g _ hg h=>by cases hg;exact S.ne h.symm
 ·exact(S.st.up (w':=w1)).away f2 fun k hk i hi h=>(S.rw k hk i hi).2.1 h
theorem SrvP.new[L:Le w w'](S:SrvP R B w bs g c s)(hB:B≤w.heap.size):SrvP (gR R w w') B w' bs g c s∧Fr R w w':=by
 have h:=SrvX.reg S
 refine⟨SrvX.wide (SrvP.up S) (fun i hi=>.inl hi) fun i hi=>?_,Fr.fr L.e⟩
 have:=L.e.size
 rcases hi with hi|hi
 ·have:=h.1 i hi;omega
 ·omega
theorem SrvP.gr[L:Le w w1](S:SrvP (gR R w1 w') B w' bs g c s)(h:w1.heap.size≤w'.heap.size)(hB:B≤w.heap.size):SrvP (gR R w w') B w' bs g c s:=by
 have h0:=SrvX.reg S
 have:=L.e.size
 refine SrvX.wide S (fun i hi=>hi.imp id fun h=>by omega) fun i hi=>?_
 rcases hi with hi|hi
 ·exact h0.1 i (.inl hi)
 ·omega
theorem SrvP.lo(S:SrvP R B w bs g c s):∀i,R i→i<w.heap.size:=fun i hi=>((SrvX.reg S).1 i hi).2
set_option maxHeartbeats 1000000 in
theorem zGH{x:RReq}(S:SrvP R B w0 bs g c s)[L:Le w0 w](hB:B≤w0.heap.size):
  Sp PP F.qe #[.pointer (some ⟨bs,0,none⟩),agg x] w fun v w'=>v=.int .i64 (backS s x.id).2∧SrvP (gR R w0 w') B w' bs g c (backS s x.id).1∧Fr R w w':=by
 have SP:=S
 obtain⟨K,wt,hd,lw,lh,lj,RW,S⟩:=S
 have F0:=S.fz.here
 have hsm:=S.small
 have hpl:=F0.plc x.id
 have hfd:=F0.found x.id
 have ok:=(zMg S.so x.id).1
 have hwn:=F0.fw.len
 refine en TBok rfl ?_
 refine rbx fun b1 w1 n1 B1=>?_
 refine drawR TBok mixed (fun _=>False) (upF 12 0) (by kernel_rfl) fun w2 e2 _=>?_
 refine tld (B:=S.cell) rfl not_false (tld (B:=B1) rfl not_false ?_)
 refine rcall (zIS (id:=x.id) (S.fz.at (w':=w2)).fw (by omega)) ?_
 rintro _ w3 ⟨⟨v',rfl,O3⟩,e3⟩
 refine⟨Fr.fr e3,?_⟩
 have s3:Stp w2 w3:=⟨e3⟩
 unfold takeR at O3 ⊢
 unfold backS at ok ⊢
 rw [hpl] at O3 ⊢
 cases hw:waitAt s.wait x.id with
 |some k =>
  rw [hw] at O3 ok
  have q_:=zJR hw
  obtain⟨hk,hid⟩:=q_
  dsimp only at O3 ok ⊢
  have q_:=O3.shape
  obtain⟨a3,c3,rfl⟩:=q_
  refine rsto (B:=S.cell) (vs:=[.slice a3 (lw.take k++lw.drop (k+1)).length c3]) rfl rfl rfl (sv1 _ _ _) fun w4 C4 f4 _=>?_
  have C4:Bk w4 bs (srvL c K ⟨a3,(lw.take k++lw.drop (k+1)).length,c3⟩ hd) E.qk:=C4
  have hW:=S.waits (w1:=w3) (s':=⟨s.wait.eraseIdx k,s.held⟩) hB rfl C4 f4 ok ?_
  exact⟨rfl,hW.1,hW.2 w inferInstance⟩
  refine((S.fz1 (w':=w3)).and (S.fzO O3 (Le.size (a:=w0) (b:=w2)))).imp fun u ⟨Fa,Sw⟩=>⟨Fa.rows,Fa.pos,Fa.words,Fa.wk,Sw,Fa.fh,?_,fun i h h'=>?_,Fa.lhn,Fa.ljn,Fa.helds⟩
  ·have:=Fa.lwn;simp only [List.length_append,List.length_take,List.length_drop,List.length_eraseIdx];split <;> omega
  ·have hl:=Fa.lwn
   dsimp only at h'
   have hle:s.wait.eraseIdx k=s.wait.take k++s.wait.drop (k+1):=List.eraseIdx_eq_take_drop_succ ..
   simp only [hle,List.getElem_append,List.length_take]
   have hm1:min k lw.length=k:=by omega
   have hm2:min k s.wait.length=k:=by omega
   simp only [hm1,hm2]
   split
   ·simp only [List.getElem_take];exact Fa.waits i (by omega) (by omega)
   ·simp only [List.getElem_drop]
    have:i<(lw.take k++lw.drop (k+1)).length:=h
    simp only [List.length_append,List.length_take,List.length_drop] at this
    exact Fa.waits (k+1+(i - k)) (by omega) (by omega)
 |none =>
  rw [hw] at ok
  dsimp only at ok ⊢
  refine drawR TBok mixed (fun _=>False) (upF 12 0) (by kernel_rfl) fun w4 e4 _=>?_
  refine tld (B:=S.cell) rfl not_false (tld (B:=B1) rfl not_false ?_)
  refine rcall (zD0 (id:=x.id) (S.fz.at (w':=w4)).fh (by omega)) ?_
  rintro _ w5 ⟨rfl,e5⟩
  refine⟨e5.e,?_⟩
  rw [hfd]
  cases hh:heldAt s.held x.id with
  |some k =>
   have q_:=zJs hh
   obtain⟨y,i,hy,hyid⟩:=q_
   refine rcall (zGI (k0:=k) (SrvX.z (SrvP.up (w':=w5) SP) k) (zLe k) hy (Nat.le_trans hB (Le.size (a:=w0) (b:=w5)))) ?_
   rintro _ w6 ⟨S6,f6⟩
   exact⟨rfl,SrvP.gr (w:=w0) S6 f6.size hB,(Fr.fr (Le.e (a:=w) (b:=w5))).trans f6⟩
  |none =>
   exact⟨rfl,(SrvP.new (w':=w5) SP hB).1,Fr.fr (Le.e (a:=w) (b:=w5))⟩
theorem RqIs.small{d:RqD}(h:RqIs d):d.q.words.length≤8∧∀s∈d.q.words,s.size≤12:=by
 obtain⟨h1,h2,h3⟩:=h
 by_cases h4:d.kind=4
 ·rw [if_pos h4] at h3
  rw [h3];simp [zQy]
 ·rw [if_neg h4] at h3
  rcases h1 with h1|⟨h1,h5⟩
  ·exact absurd h1 h4
  ·by_cases h6:d.kind=3
   ·have:=h5.2.2.2 (by omega)
    exact⟨this.1.2,fun s hs=>(this.2.2.2 s hs).2.2⟩
   ·rw [if_neg h6] at h3
    rw [h3.1];simp
theorem RqO.up{B:Nat}[L:Le w w']{x:RReq}{d:RqD}(h:RqO B w x d):RqO B w' x d:=⟨h.1,h.2.1,h.2.2.1,h.2.2.2.1,h.2.2.2.2.1,h.2.2.2.2.2.1.up,h.2.2.2.2.2.2⟩
theorem RqO.fz{M R:Nat→Prop}{B:Nat}{x:RReq}{d:RqD}(h:RqO B w x d)(hM:∀i,B≤i→i<w.heap.size→R i∧¬M i):Fz M R w fun u=>RqV u x d:=fun u f =>
 ⟨h.1,h.2.1,⟨h.2.2.1,h.2.2.2.1,h.2.2.2.2.1,h.2.2.2.2.2.1.fz hM u f,h.2.2.2.2.2.2.1,h.2.2.2.2.2.2.2⟩⟩
theorem SrvF.off(Fa:SrvF kx g c K wt hd lw lh lj s u):K.xr.off.n=g.n+1:=by
 have:=Fa.rows.off.len
 rw [zA7] at this;exact this
set_option maxHeartbeats 1000000 in
theorem zHC{x:RReq}{d:RqD}(S:SrvP R B w0 bs g c s)[L:Le w0 w](hB:B≤w0.heap.size)(O:RqO w0.heap.size w x d)(hd4:RqIs d):
  Sp PP F.qf #[.pointer (some ⟨bs,0,none⟩),agg x] w fun v w'=>v=.int .i64 (askS g c s d (QyIs d.q g.n)).2∧SrvP (gR R w0 w') B w' bs g c (askS g c s d (QyIs d.q g.n)).1∧Fr R w w':=by
 have SP:=S
 obtain⟨K,wt,hd,lw,lh,lj,RW,S⟩:=S
 have F0:=S.fz.here
 have hsm:=S.small
 have hsml:=hd4.small
 have hidx:x.id=d.id:=O.1
 have hpl:=F0.plc x.id
 have hfd:=F0.found x.id
 rw [hidx] at hpl hfd
 have hoff:=F0.off
 have hn2:=S.gi.ok.n2
 have hask:=ask_ok (x:=d) S.so hd4.2.1
 have q_:∃s' code,askS g c s d (QyIs d.q g.n)=(s',code):=⟨_,_,rfl⟩
 obtain⟨s',code,hA⟩:=q_
 have hA1:¬QyIs d.q g.n→s'=s∧code=180:=fun h=>by
  unfold askS at hA;rw [if_neg h] at hA;cases hA;exact⟨rfl,rfl⟩
 have hA2:QyIs d.q g.n→∀k,heldAt s.held d.id=some k→s'=s∧code=150:=fun h k hk=>by
  unfold askS at hA;rw [if_pos h,hk] at hA;cases hA;exact⟨rfl,rfl⟩
 have hA3:QyIs d.q g.n→heldAt s.held d.id=none→∃L,putR lw c.queue x=(L,code)∧(code=0∧L=lw++[x]∧s'=⟨s.wait++[d],s.held⟩∨code≠0∧s'=s):=fun h hk=>by
  unfold askS at hA
  rw [if_pos h,hk,if_neg (by simp)] at hA
  unfold putR
  rw [hidx,hpl]
  cases hw:waitAt s.wait d.id with
  |some k=>rw [hw] at hA;cases hA;exact⟨[],rfl,.inr ⟨by decide,rfl⟩⟩
  |none =>
   rw [hw,if_neg (by simp)] at hA
   rw [if_neg (by simp)]
   have e:((c.queue:Int)≤(lw.length:Nat))↔c.queue≤s.wait.length:=by rw [F0.lwn];omega
   by_cases hqu:c.queue≤s.wait.length
   ·rw [if_pos hqu] at hA;cases hA;rw [if_pos (e.2 hqu)];exact⟨[],rfl,.inr ⟨by decide,rfl⟩⟩
   ·rw [if_neg hqu] at hA;cases hA;rw [if_neg (fun h=>hqu (e.1 h))];exact⟨_,rfl,.inl ⟨rfl,rfl,rfl⟩⟩
 rw [hA] at hask ⊢
 dsimp only at hask ⊢
 refine en TBok rfl ?_
 refine rbx fun b1 w1 n1 B1=>?_
 refine drawR TBok mixed (fun _=>False) (upF 11 0) (by kernel_rfl) fun w2 e2 _=>?_
 refine tldG (ds:=enc x.q) (B:=B1) rfl (Enc.len _) not_false ?_
 refine tld (B:=S.cell) rfl not_false ?_
 rw [hoff]
 refine rarE (y:=(g.n:Int)) (by push_cast;omega) (by omega) ?_
 have V2:QyV w2 x.q d.q:=((RqO.up (w':=w2) O).v).q
 refine rcall (zDW (n:=(g.n:Int)) V2 (by omega) (fun s hs=>by have:=hsml.2 s hs;omega)) ?_
 rintro _ w3 ⟨hchk,e3⟩
 refine⟨e3.e,?_⟩
 rcases hchk with ⟨hq,rfl⟩|⟨hq,rfl⟩
 case inr =>
  have q_:=hA1 hq
  obtain⟨rfl,rfl⟩:=q_
  refine ite (fun _=>?_) (fun h=>absurd (by first|omega|decide|(dsimp only <;> omega)) h)
  exact⟨rfl,(SrvP.new (w':=w3) SP hB).1,Fr.fr (Le.e (a:=w) (b:=w3))⟩
 refine ite (fun h=>absurd rfl h) (fun _=>?_)
 refine drawR TBok mixed (fun _=>False) (upF 12 0) (by kernel_rfl) fun w4 e4 _=>?_
 refine tld (B:=S.cell) rfl not_false (tld (B:=B1) rfl not_false ?_)
 have D:=zD0 (id:=x.id) (S.fz.at (w':=w4)).fh (by omega)
 rw [hidx,hfd] at D
 refine rcall (f:=F.y2) (by rw [hidx];exact D) ?_
 rintro _ w5 ⟨rfl,e5⟩
 refine⟨e5.e,?_⟩
 cases hh:heldAt s.held d.id with
 |some k =>
  have q_:=hA2 hq k hh
  obtain⟨rfl,rfl⟩:=q_
  exact⟨rfl,(SrvP.new (w':=w5) SP hB).1,Fr.fr (Le.e (a:=w) (b:=w5))⟩
 |none =>
  have q_:=hA3 hq hh
  obtain⟨L,hput,hL⟩:=q_
  have hwn:=F0.fw.len
  refine drawR TBok mixed (fun _=>False) (upF 16 0) (by kernel_rfl) fun w6 e6 _=>?_
  refine tld (B:=S.cell) rfl not_false (tld (B:=S.cell) rfl not_false ?_)
  refine tldG (ds:=enc x) (B:=B1) rfl (Enc.len _) not_false ?_
  have D:=zJe (most:=(c.queue:Int)) (x:=x) (S.fz.at (w':=w6)).fw (by omega)
  rw [hput] at D
  refine rcall D ?_
  rintro _ w7 ⟨⟨v',rfl,O7⟩,e7⟩
  refine⟨Fr.fr e7,?_⟩
  have s7:Stp w6 w7:=⟨e7⟩
  rcases hL with ⟨rfl,rfl,rfl⟩|⟨hne,rfl⟩
  case inr =>
   refine ite (fun h=>absurd h hne) (fun _=>?_)
   exact⟨rfl,(SrvP.new (w':=w7) SP hB).1,Fr.fr (Le.e (a:=w) (b:=w7))⟩
  refine ite (fun _=>?_) (fun h=>absurd rfl h)
  dsimp only at O7
  have q_:=O7.shape
  obtain⟨a7,c7,rfl⟩:=q_
  refine rsto (B:=S.cell) (vs:=[.slice a7 (lw++[x]).length c7]) rfl rfl rfl (sv1 _ _ _) fun w8 C8 f8 _=>?_
  have C8:Bk w8 bs (srvL c K ⟨a7,(lw++[x]).length,c7⟩ hd) E.qk:=C8
  have ok:SvOk g c ⟨s.wait++[d],s.held⟩:=by
   rcases hask with ⟨_,_,h3,_⟩|⟨h1,_⟩
   ·exact h3
   ·omega
  have hW:=S.waits (w1:=w7) (s':=⟨s.wait++[d],s.held⟩) hB rfl C8 f8 ok ?_
  exact⟨rfl,hW.1,hW.2 w inferInstance⟩
  have ZO:=(RqO.up (w':=w7) O).fz (M:=mutS bs K.bj c.workers RW) (R:=gR R w0 w7) fun i h1 h2=>⟨.inr ⟨h1,h2⟩,fun h=>by have:=S.reg i (S.mut h);omega⟩
  refine((S.fz1 (w':=w7)).and ((S.fzO O7 (Le.size (a:=w0) (b:=w6))).and ZO)).imp fun u ⟨Fa,Sw,V⟩=>⟨Fa.rows,Fa.pos,Fa.words,Fa.wk,Sw,Fa.fh,?_,fun i h h'=>?_,Fa.lhn,Fa.ljn,Fa.helds⟩
  ·simp [Fa.lwn]
  ·have hl:=Fa.lwn
   simp only [List.getElem_append]
   by_cases hi:i<lw.length
   ·rw [dif_pos hi,dif_pos (by omega)];exact Fa.waits i hi (by omega)
   ·rw [dif_neg hi,dif_neg (by omega)]
    simp only [List.getElem_singleton];exact V
end
section
variable {kx:Nat} {R:Nat→Prop} {B:Nat} {w0 w w':World} {bs:Nat} {g:GrD} {c:CfD} {s:SvD} {Ls:Nat→List StD} {K:SrvK} {wt hd:SV} {lw:List RReq} {lh:List RHeld} {lj:List RJob} {RW:Nat→Nat→Prop}
theorem SrvF.wkn(Fa:SrvF kx g c K wt hd lw lh lj s u):K.wk.n=c.workers:=by have:=Fa.wk.len;simpa using this
theorem zBI(S:SrvP R B w bs g c s):Sp PP F.zj #[.pointer (some ⟨bs,0,none⟩)] w fun v w'=>Own w.heap.size E.qa w' v ((List.range c.workers).map fun k=>(liveW g c.workers s.held k:Int))∧Stp w w':=by
 obtain⟨K,wt,hd,lw,lh,lj,RW,S⟩:=S
 have hW:=S.ci.workers
 have hwn:=S.fz.here.wkn
 refine en TBok rfl ?_
 refine rpnil ?_
 refine rld (B:=S.cell) rfl ?_
 refine cnt1 TBok 13 [5] 3 13 c.workers (fun j v u=>Own w.heap.size E.qa u v ((List.range j).map fun k=>(liveW g c.workers s.held k:Int))∧Stp w u) rfl rfl ⟨Own.nil _ _ _,stp⟩ ?_
 rintro j v G u hj ⟨O,su⟩
 refine ite (fun hlt=>?_) (fun hge=>?_)
 ·have hja:j<c.workers:=by (try dsimp only at hlt);omega
  refine rix (S.fz.at (w':=u)).wk (x:=⟨K.sb j⟩) (by simp [hja]) fun b1 o1 A1=>rload1 (A1.cell0 rfl) ?_
  refine rcall (zHG ((S.st.sto j hja).up (w':=u))) ?_
  rintro _ u1 ⟨rfl,e1⟩
  refine rbs1 ((liveW g c.workers s.held j:Nat):Int) rfl rfl (by decide) fun b2 u2 e2 _ S2=>?_
  refine rapp1 (u:=w) ⟨rfl,rfl⟩ (O.up (w':=u2)) S2 (by simp;omega) fun v3 u3 O3 f3 s3=>?_
  refine rar (by omega) ⟨rfl,hja,?_,stp⟩
  rw [List.range_succ,List.map_append];exact O3
 ·obtain rfl:j=c.workers:=by (try dsimp only at hge);omega
  exact⟨O,su⟩
theorem SrvF.usedH(Fa:SrvF kx g c K wt hd lw lh lj s u):usedH lh=(usedS s.held).map fun k:Nat=>(k:Int):=by
 unfold Go.W.usedH usedAt usedS
 rw [Fa.lhn]
 congr 1
 unfold selN
 refine List.filter_congr fun k hk=>?_
 have hk:=List.mem_range.1 hk
 have h1:k<lh.length:=by rw [Fa.lhn];exact hk
 have:=Fa.helds k h1 (by rw [Fa.ljn];exact hk)
 rw [zAs h1]
 cases e:s.held.getD k none with
 |none=>rw [e] at this;simp only [HeldOk] at this;simp [this]
 |some p=>obtain⟨d,i⟩:=p;rw [e] at this;simp [this.1]
theorem zC9(S:SrvP R B w bs g c s):Sp PP F.zk #[.pointer (some ⟨bs,0,none⟩)] w fun v w'=>Own w.heap.size E.qa w' v (idsH s.held)∧Stp w w':=by
 obtain⟨K,wt,hd,lw,lh,lj,RW,S⟩:=S
 have hsm:=S.small
 have F0:=S.fz.here
 have hu:=F0.usedH
 have hhn:=F0.fh.len
 have hul:(usedS s.held).length≤lh.length:=by rw [F0.lhn];exact zEO _ _
 refine en TBok rfl ?_
 refine rpnil ?_
 refine rld (B:=S.cell) rfl ?_
 have D:=zD1 F0.fh (by omega)
 rw [hu] at D
 refine rcall D ?_
 rintro v w1 ⟨O1,e1⟩
 have q_:=O1.shape
 obtain⟨a1,c1,rfl⟩:=q_
 refine cnt1 TBok 14 [5] 3 14 (usedS s.held).length (fun j v u=>Own w1.heap.size E.qa u v (((usedS s.held).take j).map (idAt s.held))∧Stp w1 u) rfl rfl ⟨Own.nil _ _ _,stp⟩ ?_
 rintro j v G u hj ⟨O,su⟩
 have hlen:((usedS s.held).map fun k:Nat=>(k:Int)).length=(usedS s.held).length:=by simp
 refine ite (fun hlt=>?_) (fun hge=>?_)
 ·have hja:j<(usedS s.held).length:=by (try dsimp only at hlt);omega
  have q_:∃k,k=(usedS s.held)[j]:=⟨_,rfl⟩
  obtain⟨k,hk⟩:=q_
  have hkm:k∈usedS s.held:=by rw [hk];exact List.getElem_mem hja
  have q_:=zDE.1 hkm
  obtain⟨hkl,hks⟩:=q_
  have hkh:k<lh.length:=by rw [F0.lhn];exact hkl
  have hH:=F0.helds k hkh (by rw [F0.ljn];exact hkl)
  refine rix (O1.sl.up (w':=u)) (x:=(k:Int)) (by simp [hja,hk]) fun b1 o1 A1=>rload1 (A1.cell0 rfl) ?_
  refine rld (B:=S.cell) rfl ?_
  refine rix (S.fz.at (w':=u)).fh (x:=lh[k]) (by simp) fun b2 o2 A2=>rload1 (A2.cell 1 rfl) ?_
  refine rbs1 lh[k].r.id rfl rfl (by decide) fun b3 u3 e3 _ S3=>?_
  refine rapp1 (u:=w1) ⟨rfl,rfl⟩ (O.up (w':=u3)) S3 (by simp;omega) fun v4 u4 O4 f4 s4=>?_
  refine rar (by omega) ⟨rfl,hja,?_,stp⟩
  rw [List.take_succ_eq_append_getElem hja,List.map_append,←hk]
  have he:idAt s.held k=lh[k].r.id:=by
   unfold idAt
   cases e:s.held.getD k none with
   |none=>rw [e] at hks;cases hks
   |some p=>obtain⟨d,i⟩:=p;rw [e] at hH;exact hH.2.1.id.symm
  simp only [List.map_cons,List.map_nil,he]
  exact O4
 ·obtain rfl:j=(usedS s.held).length:=by (try dsimp only at hge);omega
  rw [List.take_length,zL3] at O
  exact⟨O.older,stp⟩
theorem SrvF.free(Fa:SrvF kx g c K wt hd lw lh lj s u):freeAt lh=freeS s.held:=by
 have h1:freeAt lh=(lh.map (·.used)).findIdx? fun b=>!b:=by unfold freeAt;rw [List.findIdx?_map];rfl
 have h2:freeS s.held=(s.held.map (·.isSome)).findIdx? fun b=>!b:=by unfold freeS;rw [List.findIdx?_map];congr 1;funext o;cases o <;> rfl
 rw [h1,h2]
 congr 1
 refine zGA Fa.lhn fun k h3 h4=>?_
 have:=Fa.helds k h3 (by rw [Fa.ljn];exact h4)
 rw [List.getD_eq_getElem?_getD,List.getElem?_eq_getElem h4,Option.getD_some] at this
 cases e:s.held[k] with
 |none=>rw [e] at this;simpa [HeldOk] using this
 |some p=>obtain⟨d,j⟩:=p;rw [e] at this;simpa using this.1
set_option maxHeartbeats 2000000 in
theorem zGk(S:SrvP R B w bs g c s)(hB:B≤w.heap.size):
  Sp PP F.y7 #[.pointer (some ⟨bs,0,none⟩)] w fun _ w'=>SrvP (gR R w w') B w' bs g c ⟨(admitS s.wait s.held).1,(admitS s.wait s.held).2⟩∧Fr R w w':=by
 refine en TBok rfl ?_
 have S0:SrvP (gR R w w) B w bs g c ⟨s.wait,s.held⟩:=SrvX.wide S (fun i hi=>.inl hi) fun i hi=>hi.elim ((SrvX.reg S).1 i) fun h=>by omega
 refine loop0G TBok 8 [2,3,4,5,6,7] (fun i u=>∃l h,l.length=i∧admitS l h=admitS s.wait s.held∧SrvP (gR R w u) B u bs g c ⟨l,h⟩∧Fr R w u) rfl ⟨_,s.wait,s.held,rfl,rfl,S0,Fr.refl _ _⟩ ?_
 rintro i G u ⟨l,h,hi,hadm,S,f⟩
 clear S0
 have z0:=f.size
 have SP:=S
 obtain⟨K,wt,hd,lw,lh,lj,RW,S⟩:=S
 have F0:=S.fz.here
 have hsm:=S.small
 have hlw:=F0.lwn
 have hwtn:=F0.fw.len
 have hbs:=S.reg _ S.rs
 have hbj:=S.reg _ S.rj
 have hfree:=F0.free
 dsimp only at hlw hfree
 refine rld (B:=S.cell) rfl ?_
 refine rcall (zIR F0.fw (by omega)) ?_
 rintro _ u1 ⟨⟨v1,rfl,O1⟩,e1⟩
 have s1:Stp u u1:=⟨e1⟩
 refine ral fun bx u2 n2 X2=>?_
 have hbx:=n2.lo (u:=u)
 have hbx2:=n2.lt
 refine rsto (B:=X2) (vs:=enc (nextR lw).1) rfl rfl rfl (Enc.one _) fun u3 X3 f3 _=>?_
 have X3:Bk u3 bx (enc (nextR lw).1) E.qc:=X3
 have s3:Stp u1 u3:=⟨Fr.st Le.e f3 fun i hi=>by subst hi;exact n2.lo⟩
 clear X2 f3
 refine drawR TBok mixed (fun _=>False) (upF 13 0) (by kernel_rfl) fun u4 e4 _=>?_
 refine tld (B:=S.cell) rfl not_false ?_
 refine tldG (ds:=enc (nextR lw).1) (B:=X3) rfl (Enc.len _) not_false ?_
 refine rcall (zIH (x:=(nextR lw).1) (S.fz.at (w':=u4)).fh (by omega)) ?_
 rintro _ u5 ⟨⟨v5,rfl,O5⟩,e5⟩
 refine⟨e5.e,?_⟩
 have out:admitS l h=(l,h)→SrvP (gR R w u5) B u5 bs g c ⟨(admitS s.wait s.held).1,(admitS s.wait s.held).2⟩∧Fr R w u5:=fun he=>by
  rw [←hadm,he]
  have h1:=Le.size (a:=u) (b:=u5)
  refine⟨SrvX.wide (SrvP.up (w':=u5) SP) (fun i hi=>hi.imp id fun h=>by omega) fun i hi=>?_,f.trans (Fr.fr (Le.e (a:=u) (b:=u5)))⟩
  have h2:=(SrvX.reg SP).1
  rcases hi with hi|hi
  ·have:=h2 i (.inl hi);omega
  ·omega
 cases hl:lw with
 |nil =>
  subst hl
  have hl0:l=[]:=List.eq_nil_of_length_eq_zero (by simpa using hlw.symm)
  subst hl0
  exact out rfl
 |cons x r =>
  cases l with
  |nil=>rw [hl] at hlw;simp at hlw
  |cons d l =>
  rw [hl] at O1 O5 X3
  dsimp only [nextR] at O1 O5 X3 ⊢
  unfold putH at O5 ⊢
  rw [hfree] at O5 ⊢
  cases hf:freeS h with
  |none =>
   dsimp only
   refine ite (fun _=>?_) (fun h=>absurd (by first|omega|decide|(dsimp only <;> omega)) h)
   refine out ?_
   unfold admitS;rw [hf]
  |some k =>
   have q_:=zEk hf
   obtain⟨hk,hn⟩:=q_
   rw [hf] at O5
   dsimp only at O5 ⊢
   refine ite (fun h=>absurd rfl h) (fun _=>?_)
   have hkj:k<lj.length:=by rw [F0.ljn];exact hk
   have hV:Fz (mutS bs K.bj c.workers RW) (gR R w u) u fun u'=>RqV u' x d:=S.fz.imp fun u' Fa=>by
    have:=Fa.waits 0 (by rw [hl];simp) (by simp)
    simp only [hl,List.getElem_cons_zero] at this
    exact this
   have V5:=hV.at (w':=u5)
   have hrok:=S.so.wait d (by simp)
   have ok:=zKs S.ci S.so hf
   have q_:=O1.shape
   obtain⟨a1,c1,rfl⟩:=q_
   have q_:=O5.shape
   obtain⟨a5,c5,rfl⟩:=q_
   refine rsto (B:=S.cell) (vs:=[.slice a1 r.length c1]) rfl rfl rfl (sv1 _ _ _) fun u6 C6 f6 _=>?_
   have C6:Bk u6 bs (srvL c K ⟨a1,r.length,c1⟩ hd) E.qk:=C6
   refine rsto (B:=C6) (vs:=[.slice a5 (lh.set k ⟨true,x⟩).length c5]) rfl rfl rfl (sv1 _ _ _) fun u7 C7 f7 _=>?_
   have C7:Bk u7 bs (srvL c K ⟨a1,r.length,c1⟩ ⟨a5,(lh.set k ⟨true,x⟩).length,c5⟩) E.qk:=C7
   have f57:Fr (fun i=>i=bs) u5 u7:=f6.trans f7
   have z57:=f57.size
   have z5:=Le.size (a:=u) (b:=u5)
   have z3:=Le.size (a:=u3) (b:=u5)
   have m57:Fr (mutS bs K.bj c.workers RW) u5 u7:=f57.mono fun i _ hi=>.inl hi
   have X7:=(X3.mv (w:=u5)).fr f57 (by omega)
   have J7:=(S.jobs.up (w':=u5)).fr f57 fun g _ hg h=>by cases hg;exact S.ne h.symm
   have T7:=(S.st.up (w':=u5)).away f57 fun k hk i hi h=>(S.rw k hk i hi).2.1 h
   have Z5:=((S.fz1 (w':=u5)).and ((S.fzO (w':=u5) (O1.up (w':=u5)) (Nat.le_refl _)).and (S.fzO O5 (Le.size (a:=u) (b:=u4)))))
   have Z7:Fz (mutS bs K.bj c.workers RW) (gR (gR R w u) u u7) u7 _:=Z5.step m57 (fun _ _ h=>h) fun i _ h=>h.imp id fun h=>by omega
   have hV7:RqV u7 x d:=hV u7 (((Fr.fr (Le.e (a:=u) (b:=u5))).trans m57).mono fun i _ h=>.inl h)
   refine drawR TBok mixed (fun i=>i=K.bj) [0,1,2,3,4,5,6,7,8,9,10,11] (by kernel_rfl) fun u8 e8 _=>?_
   refine tld (B:=C7) rfl (fun h=>S.ne h) ?_
   refine tldG (ds:=enc x.q) (B:=X7) rfl (Enc.len _) (by omega) ?_
   refine rcall (zHA (g:=g) (q:=d.q) (slot:=(k:Int)) ⟨hV7.q.kind,hV7.q.frm,hV7.q.to⟩ hrok.q.ok) ?_
   rintro v9 u9 ⟨O9,e9⟩
   refine⟨Fr.fr e9.e,?_⟩
   have q_:=O9.shape
   obtain⟨a9,c9,rfl⟩:=q_
   refine tbuild (cs:=enc (⟨⟨a9,(mls g d.q k 0).length,c9⟩,0⟩:RJob)) rfl ?_
   have J9:=J7.up (w':=u9)
   refine tixO rfl J9 (x:=lj[k]) (by simp) fun gj hgj _ _=>?_
   refine rstO' rfl (⟨⟨a9,(mls g d.q k 0).length,c9⟩,0⟩:RJob) J9 hgj hkj rfl fun u10 J10 f10 _=>?_
   have f10:Fr (fun i=>i=K.bj) u9 u10:=f10.mono fun i _ hi=>bjD hi
   refine⟨f10,?_⟩
   have z9:=Le.size (a:=u7) (b:=u9)
   have Z9:=(Z7.step (M':=mutS bs K.bj c.workers RW) (R':=gR (gR R w u) u u9) (w':=u9) (Fr.fr (Le.e (a:=u7) (b:=u9))) (fun _ _ h=>h) (fun i _ h=>h.imp id fun h=>by omega)).and (S.fzO (w':=u9) O9 (by have:=Le.size (a:=u7) (b:=u8);omega))
   have Zn:Fz (mutS bs K.bj c.workers RW) (gR (gR R w u) u u9) u9 (SrvF 1000 g c K ⟨a1,r.length,c1⟩ ⟨a5,(lh.set k ⟨true,x⟩).length,c5⟩ r (lh.set k ⟨true,x⟩) (lj.set k ⟨⟨a9,(mls g d.q k 0).length,c9⟩,0⟩) ⟨l,h.set k (some (d,0))⟩):=
    Z9.imp fun u' ⟨⟨Fa,Sw,Sh⟩,Sm⟩=>by
     have hlw:=Fa.lwn
     refine⟨Fa.rows,Fa.pos,Fa.words,Fa.wk,Sw,Sh,?_,fun i h1 h2=>?_,by simp [Fa.lhn],by simp [Fa.ljn],zKz hk Fa.helds ⟨rfl,?_,fun _=>⟨Sm,rfl⟩⟩⟩
     ·rw [hl] at hlw;simpa using hlw
     ·have:=Fa.waits (i+1) (by rw [hl];simpa using h1) (by simpa using h2)
      simp only [hl,List.getElem_cons_succ] at this
      exact this
     ·have:=Fa.waits 0 (by rw [hl];simp) (by simp)
      simp only [hl,List.getElem_cons_zero] at this
      exact this
   have fin:=S.fin (w1:=u9) (w':=u10) (s':=⟨l,h.set k (some (d,0))⟩) (by omega) (f10.mono fun i _ h=>.inr (.inl h)) (Nat.le_trans hB z0) ((C7.mv (w:=u9)).fr f10 S.ne) J10 (((T7.up (w':=u9)).away f10 fun k hk i hi h=>(S.rw k hk i hi).2.2 h)) (.refl _) ok Zn
   have z10:=f10.size
   have hm:Fr R w u10:=by
    refine f.join (E:=gR R w u) (D:=R) (((Fr.fr (Le.e (a:=u) (b:=u5))).trans (f57.mono fun i _ h=>h ▸ S.rs)).trans ((Fr.fr (Le.e (a:=u7) (b:=u9))).trans (f10.mono fun i _ h=>h ▸ S.rj))) (fun _ _ h=>h) fun i hi h=>h.elim id fun h=>by omega
   refine⟨l.length,by rw [←hi];simp,l,h.set k (some (d,0)),rfl,?_,?_,hm⟩
   ·rw [←hadm]
    conv=>rhs;unfold admitS
    rw [hf]
   ·have e2:wkS g c.workers h=wkS g c.workers (h.set k (some (d,0))):=(zM4 hk hn d).symm
    dsimp only at fin
    rw [e2] at fin
    refine SrvX.wide (R:=gR (gR R w u) u u10) ⟨K,_,_,_,_,_,RW,fin⟩ (gR_gR z0 (by omega)) fun i hi=>?_
    ·have h2:=(SrvX.reg SP).1
     rcases hi with hi|hi
     ·have:=h2 i (.inl hi);omega
     ·omega
end
section
variable {kx:Nat} {R:Nat→Prop} {B:Nat} {w0 w w':World} {bs:Nat} {g:GrD} {c:CfD} {s:SvD} {Ls:Nat→List StD} {K:SrvK} {wt hd:SV} {lw:List RReq} {lh:List RHeld} {lj:List RJob} {RW:Nat→Nat→Prop}
theorem zEB{a b:StD}{w:World}:Sp PP F.ys #[agg a,agg b] w fun v w'=>v=.int .i64 (cfS a b)∧Gw w w':=by
 refine en TBok rfl ?_
 refine rbx fun ba w1 n1 B1=>rbx fun bb w2 n2 B2=>?_
 refine drawRE TBok mixed (fun _=>False) (.one 0 (.one 1 (.one 2 (.one 3 (.one 4 (.one 5 (.one 7 (.one 8 (.one 9 (.one 10 (.one 11 (.one 12 (.one 6 (.one 13 (.one 14 (.one 15 (.one 16 .nil))))))))))))))))) (by kernel_rfl) fun w3 e3 g3=>?_
 refine tld (B:=B1) rfl not_false (tld (B:=B2) rfl not_false ?_)
 refine tld (B:=B1) rfl not_false (tld (B:=B2) rfl not_false ?_)
 refine rcall zAc ?_
 rintro v w4 ⟨rfl,rfl⟩
 refine⟨Fr.refl _ _,?_⟩
 refine rcall zAc ?_
 rintro v w5 ⟨rfl,rfl⟩
 refine⟨Fr.refl _ _,?_⟩
 refine rbsN [cmpI a.key.dir b.key.dir,cmpI a.key.v b.key.v] rfl (vs:=[.int .i64 (cmpI a.key.dir b.key.dir),.int .i64 (cmpI a.key.v b.key.v)]) rfl rfl (by decide) fun b7 w7 n7 S7=>⟨n7.e,?_⟩
 refine rcall (zBr S7 (by simp)) ?_
 rintro v w8 ⟨rfl,rfl⟩
 refine⟨Fr.refl _ _,?_⟩
 exact⟨rfl,n1.gw.trans (n2.gw.trans (g3.trans n7.gw))⟩
theorem zJb{l':List StD}{o:Option (RqD×Nat)}(hp:l'.Perm (sts1 g o k))(hs:l'.Pairwise fun a b=>¬cfS b a<0):l'=sts1 g o k:=by
 have M:=zDJ g o k
 refine SRis.uniq ?_ M fun x=>hp.mem_iff
 have hnd:l'.Nodup:=hp.nodup_iff.2 M.nodup
 rw [List.nodup_iff_pairwise_ne] at hnd
 refine List.Pairwise.imp_of_mem (fun {a b} ha hb hh=>?_) (hs.and hnd)
 have ha':=hp.mem_iff.1 ha
 have hb':=hp.mem_iff.1 hb
 have hsa:=zA6 ha'
 have hsb:=zA6 hb'
 refine zBS (fun hl=>hh.1 ((zGt _ _).2 ?_)) (fun he=>hh.2 (M.inj ha' hb' he.symm))
 unfold lessK at hl;omega
theorem SrvP.lens(S:SrvP R B w bs g c s):∀k,k<c.workers→(wkS g c.workers s.held k).length≤c.pool:=fun k hk=>by
 obtain⟨K,wt,hd,lw,lh,lj,RW,S⟩:=S
 exact(S.st.sto k hk).lt.2.2.2.1
set_option maxHeartbeats 1000000 in
theorem zCr{k0:Nat}(S:SrvP R B w bs g c s)(hk:k0<s.held.length):
  Sp PP F.y1 #[.pointer (some ⟨bs,0,none⟩),.int .i64 (k0:Int)] w fun v w'=>Own w.heap.size E.qf w' v (sts1 g (s.held.getD k0 none) k0)∧Stp w w':=by
 have hlens:=S.lens
 obtain⟨K,wt,hd,lw,lh,lj,RW,S⟩:=S
 have hW:=S.ci.workers
 have hpo:=S.ci.pool
 have hwn:=S.fz.here.wkn
 have hfl:∀j,j≤c.workers→((List.range j).flatMap fun k=>ofS (wkS g c.workers s.held k) (k0:Int)).length≤j*400:=by
  intro j
  induction j with
  |zero=>intro _;simp
  |succ j ih =>
   intro hj
   have h1:=ih (by omega)
   rw [List.range_succ,List.flatMap_append,List.length_append]
   have h2:(ofS (wkS g c.workers s.held j) (k0:Int)).length≤(wkS g c.workers s.held j).length:=List.length_filter_le _ _
   have h3:=hlens j (by omega)
   simp only [List.flatMap_cons,List.flatMap_nil,List.append_nil]
   rw [Nat.add_mul];omega
 refine en TBok rfl ?_
 refine rld (B:=S.cell) rfl ?_
 refine cnt1 TBok 14 [7,8] 5 14 c.workers (fun j v u=>Own w.heap.size E.qf u v ((List.range j).flatMap fun k=>ofS (wkS g c.workers s.held k) (k0:Int))∧Stp w u) rfl rfl ⟨Own.nil _ _ _,stp⟩ ?_
 rintro j v G u hj ⟨O,su⟩
 refine ite (fun hlt=>?_) (fun hge=>?_)
 ·have hja:j<c.workers:=by (try dsimp only at hlt);omega
  refine rix (S.fz.at (w':=u)).wk (x:=⟨K.sb j⟩) (by simp [hja]) fun b1 o1 A1=>rload1 (A1.cell0 rfl) ?_
  refine rcall (zJa (s:=(k0:Int)) ((S.st.sto j hja).up (w':=u))) ?_
  rintro v1 u1 ⟨O1,e1⟩
  have h1:=hfl j hj
  have h2:(ofS (wkS g c.workers s.held j) (k0:Int)).length≤(wkS g c.workers s.held j).length:=List.length_filter_le _ _
  have h3:=hlens j (by omega)
  refine rapp (u:=w) ⟨rfl,rfl⟩ (O.up (w':=u1)) O1.sl (by omega) fun v2 u2 O2 f2 s2=>?_
  refine rar (by omega) ⟨rfl,hja,?_,stp⟩
  rw [List.range_succ,List.flatMap_append]
  simp only [List.flatMap_cons,List.flatMap_nil,List.append_nil]
  exact O2
 ·obtain rfl:j=c.workers:=by (try dsimp only at hge);omega
  have h1:=hfl c.workers (Nat.le_refl _)
  refine rcall (zCg Tryz.sortS (k:=4) (show Agg PP E.qf 4 from inferInstance) rfl cfS zJl (f:=F.qh) rfl (fun x y W=>zEB) O (by omega)) ?_
  rintro r u1 ⟨rfl,l',hp,hs,O1,f1⟩
  have s1:Stw w u u1:=zAu f1
  have hl':=zJb (hp.trans (of_all hk (by omega))) hs
  rw [←hl']
  exact⟨O1,stp⟩
set_option maxHeartbeats 2000000 in
theorem zDa{k0:Nat}{x0:RqD}{C:Nat}{e:TypeId}{n':Nat}(S:SrvR 1000 R B w bs g c s (wkS g c.workers s.held) K wt hd lw lh lj RW)(hB:B≤w.heap.size)(hu:s.held.getD k0 none=some (x0,i))(O:Own C e w (.slice a n n') (sts g x0.q k0 (i+1)))(hC:∀i,R i→i<C):
  Sp PP F.zo #[.pointer (some ⟨bs,0,none⟩),.slice a n n'] w fun v w'=>(∃b Ls RW',v=.bool b∧SrvR 1000 (gR R w w') B w' bs g c s Ls K wt hd lw lh lj RW'∧GrowR c.workers RW RW' w.heap.size∧overS g c (aftS s.held k0 x0 i) = !b∧ButS g c.workers s.held k0 Ls∧(b=true→Ls=wkS g c.workers (aftS s.held k0 x0 i)))∧Fr (anyR c.workers RW) w w':=by
 have q_:=zAC hu
 obtain⟨hk,hm⟩:=q_
 have hlen:=S.so.len
 have hrq:=(S.so.held x0 i hm).1
 have hg2:=S.gi.ok.n2
 have hW:=S.ci.workers
 have hsl:=S.ci.slots
 have hwn:=S.fz.here.wkn
 have hln:=O.sl.len
 have hsm:(sts g x0.q k0 (i+1)).length≤400:=by
  rw [zJO]
  have:=sn_le (dir:=0) hrq.q.ok (i+1)
  have:=sn_le (dir:=1) hrq.q.ok (i+1)
  omega
 have hbs:=S.reg _ S.rs
 have hbj:=S.reg _ S.rj
 have fin:∀{u:World} {RW':Nat→Nat→Prop} {Ls:Nat→List StD},Stos B u c.workers K c.pool RW' Ls→GrowR c.workers RW RW' w.heap.size→Fr (anyR c.workers RW) w u→SrvR 1000 (gR R w u) B u bs g c s Ls K wt hd lw lh lj RW':=fun {u RW' Ls} T GR f=>by
  have nbs:¬anyR c.workers RW bs:=fun⟨k,hk,h⟩=>(S.rw k hk _ h).2.1 rfl
  have nbj:¬anyR c.workers RW K.bj:=fun⟨k,hk,h⟩=>(S.rw k hk _ h).2.2 rfl
  exact S.fin (w1:=w) (Nat.le_refl _) (f.mono fun i _ h=>zBn h) hB (S.cell.fr f nbs) (S.jobs.fr f fun g _ hg h=>by cases hg;exact nbj h) T GR S.so (S.fz1 (w':=w))
 refine en TBok rfl ?_
 refine cnt TBok 12 [4,6,7,8,9] 12 (sts g x0.q k0 (i+1)).length (fun j u=>∃RW' Ls',Stos B u c.workers K c.pool RW' Ls'∧GrowR c.workers RW RW' w.heap.size∧Fr (anyR c.workers RW) w u∧KeepI g c.workers s.held (sts g x0.q k0 (i+1)) j Ls') rfl rfl
  ⟨RW,_,S.st,.refl _,Fr.refl _ _,zKD _⟩ ?_
 rintro j G u hj ⟨RW',Ls',T,GR,f,H⟩
 refine ite (fun hlt=>?_) (fun hge=>?_)
 ·have hja:j<(sts g x0.q k0 (i+1)).length:=by (try dsimp only at hlt);omega
  have q_:∃x,(sts g x0.q k0 (i+1))[j]=x:=⟨_,rfl⟩
  obtain⟨x,hx⟩:=q_
  have hxm:x∈sts g x0.q k0 (i+1):=hx ▸ List.getElem_mem hja
  have hmay:=zGM hrq.q.ok hg2 (by omega) hxm
  have hv:=sts1_v (g:=g) (o:=some (x0,i+1)) (k:=k0) hxm
  have hhome:=zH5 (W:=c.workers) (v:=x.key.v) (by omega)
  have q_:∃p:Nat,homW c.workers x.key.v=(p:Int):=⟨(homW c.workers x.key.v).toNat,by omega⟩
  obtain⟨p,hp⟩:=q_
  have hpW:p<c.workers:=by omega
  have Ou:=O.fr f fun b hb _ ⟨k,hk,h⟩=>by have:=hC b (S.rw k hk b h).1;omega
  refine rix Ou.sl (x:=x) (by rw [List.getElem?_eq_getElem hja,hx]) fun b1 o1 A1=>rloadA A1 rfl ?_
  refine ral fun bx u2 n2 X2=>?_
  have hbx:=n2.lo (u:=u)
  refine rsto (B:=X2) (vs:=enc x) rfl rfl rfl (Enc.one _) fun u3 X3 f3 _=>?_
  have X3:Bk u3 bx (enc x) E.qf:=X3
  have s3:Stp u u3:=⟨Fr.st Le.e f3 fun i hi=>by subst hi;exact n2.lo⟩
  clear X2 f3
  have zf:=f.size
  have Cu:=S.cell.fr f fun⟨k,hk,h⟩=>(S.rw k hk _ h).2.1 rfl
  refine drawR TBok mixed (fun _=>False) (upF 14 0) (by kernel_rfl) fun u4 e4 _=>?_
  refine tld (B:=X3) rfl not_false (tld (B:=Cu) rfl not_false ?_)
  refine rcall (zBY (v:=x.key.v) (W:=c.workers)) ?_
  rintro _ u5 ⟨rfl,rfl⟩
  have e5:homV c.workers x.key.v=.tuple #[.int .i64 (p:Int),.bool true]:=by
   rw [←hp];exact if_pos ⟨hv,by have:=hmay.2.1;omega,hW⟩
  rw [e5]
  refine⟨Fr.refl _ _,?_⟩
  have nD:∀b,b<w.heap.size→¬anyR c.workers RW b→¬anyR c.workers RW' b:=fun b hb hn ⟨k,hk,h⟩=>(GR k hk b h).elim (fun h1=>hn ⟨k,hk,h1⟩) fun h1=>by omega
  refine drawR TBok mixed (anyR c.workers RW') [0,1,2,3,4,5,6,7,8,9] (by kernel_rfl) fun u6 e6 _=>?_
  refine tld (B:=Cu) rfl (nD _ hbs.2 fun⟨k,hk,h⟩=>(S.rw k hk _ h).2.1 rfl) ?_
  refine tixF (l:=(List.range c.workers).map fun k=>(⟨K.sb k⟩:RPtr)) (x:=⟨K.sb p⟩) (fun w' f'=>?_) (by simp [hpW]) fun b2 o2 A2=>tload1F A2 ?_
  ·exact(S.fz w' ((f.join ((Fr.fr (D:=anyR c.workers RW') (Le.e (a:=u) (b:=u6))).trans f') (fun _ _ h=>h) fun i hi ⟨k,hk,h⟩=>(GR k hk i h).elim (fun h1=>⟨k,hk,h1⟩) fun h1=>by omega).mono fun i _ h=>.inl (zBn h))).wk
  refine tldG (ds:=enc x) (B:=X3) rfl (Enc.len _) (fun⟨k,hk,h⟩=>by have:=T.lt k hk _ h;omega) ?_
  refine rcall (zIK (x:=x) ((T.sto p hpW).up (w':=u6))) ?_
  rintro _ u7 ⟨rfl,S7,_,f7⟩
  refine⟨f7.mono fun i _ h=>⟨p,hpW,h⟩,?_⟩
  have T6:=T.up (w':=u6)
  have T7:=T6.put hpW S7 f7
  have z6:=Le.size (a:=u) (b:=u6)
  have GR7:GrowR c.workers RW (updR RW' p (gR (RW' p) u6 u7)) w.heap.size:=GR.put (by omega)
  have f6:Fr (anyR c.workers RW) w u6:=f.trans (Fr.fr (Le.e (a:=u) (b:=u6)))
  have f67:=GR.fr f6 hpW f7
  have q_:=H.put hu hja hx hmay.1 (n:=c.pool) hp
  rcases q_ with ⟨h1,h2,h3⟩|⟨h1,h2⟩
  ·refine ite (fun _=>?_) (fun h=>absurd h1 h)
   have hq:=fin T7 GR7 f67
   have hov:overS g c (aftS s.held k0 x0 i) = !false:=zDz.2 ⟨p,hpW,h3⟩
   have he:updL Ls' p (putS' c.pool (Ls' p) x).1=Ls':=by
    funext k;unfold updL;split
    ·rename_i hkp;rw [h2,hkp]
    ·rfl
   rw [he] at hq
   exact⟨⟨false,Ls',_,rfl,hq,GR7,hov,H.but,fun h=>by cases h⟩,f67⟩
  ·refine ite (fun h=>absurd h h1) (fun _=>?_)
   exact rar (by omega) ⟨rfl,hja,_,_,T7,GR7,f67,h2⟩
 ·have hjl:j=(sts g x0.q k0 (i+1)).length:=by (try dsimp only at hge);omega
  subst hjl
  have he:=H.end hu
  have hq:=fin T GR f
  have hov:overS g c (aftS s.held k0 x0 i) = !true:=by
   show _=false
   rw [←Bool.not_eq_true,zDz]
   rintro⟨k,hk,h1⟩
   have h2:=(T.sto k hk).lt.2.2.2.1
   rw [he,zJS] at h2
   omega
  exact⟨⟨true,Ls',_,rfl,hq,GR,hov,H.but,fun _=>he⟩,f⟩
end
end Go.W
namespace Go.W
open Go
variable {B i j k m n n3:Nat} {P:Program} {R:Nat → Prop} {a a' a3:Option Addr} {g:GrD} {ps:List Int} {q:QyD} {u w w' w1 w2:World}
theorem zJ5{k:Int}{l:List HitD}:(firstK k l).length≤k.toNat∧∀h∈firstK k l,h∈l:=by
 unfold firstK
 split
 ·simp
 ·rename_i hk
  have q_:=Int.eq_ofNat_of_zero_le (show (0:Int)≤k by omega)
  obtain⟨m,rfl⟩:=q_
  rw [zIZ]
  refine⟨by simp;omega,fun h hm=>?_⟩
  exact(zKn l).2.mem_iff.1 (List.mem_of_mem_take hm)
theorem zLk(hg:GrOk g)(hq:QyOk q g.n)(hk:k≤1000){id:Int}(hid:0≤id∧id≤2147483647):
  RepOk (repOf id 0 (doneL g q (sts g q k i) (mls g q k i)).1) (doneL g q (sts g q k i) (mls g q k i)).1.hits:=by
 have hn:=hg.n2
 have hS:∀x∈sts g q k i,0≤x.key.v∧x.key.v<200∧0≤x.d∧x.d<200:=fun x hx=>by
  have h1:=zGM hq hn (by omega) hx
  have h2:=h1.1.1
  unfold mayK at h2
  omega
 have zr:RepOk (repOf id 0 zAn) zAn.hits:=⟨hid,by simp [repOf],by simp [repOf,zAn],by simp [zAn],by simp [repOf],by simp [repOf,zAn],by simp [zAn],by simp [zAn]⟩
 unfold doneL
 split
 ·unfold distL
  split
  ·rename_i m hm
   have h1:=(zHe.1 hm).1
   have q_:=zDw.1 h1
   obtain⟨x,hx,y,hy,_,_,_,rfl⟩:=q_
   have:=hS x hx;have:=hS y hy
   exact⟨hid,by simp [repOf],by simp only [repOf];omega,by simp,by simp [repOf],by simp [repOf],by simp,by simp⟩
  ·exact zr
 split
 ·unfold reachL
  split
  ·exact⟨hid,by simp [repOf],by simp [repOf],by simp,by simp [repOf],by simp [repOf],by simp,by simp⟩
  ·exact zr
 split
 ·rename_i h3
  have hq3:=hq.near h3
  unfold nearL
  split
  ·have hf:=zJ5 (k:=q.most) (l:=hitsL (placesL g q.words) (sts g q k i))
   refine⟨hid,by simp [repOf],by simp [repOf],by dsimp only;omega,by simp [repOf],fun he=>?_,.inr rfl,fun h hh=>?_⟩
   ·refine⟨rfl,?_⟩
    simpa [repOf] using he
   ·have h1:=hf.2 h hh
    unfold hitsL at h1
    have q_:=List.mem_map.1 h1
    obtain⟨x,hx,rfl⟩:=q_
    have:=hS x (List.mem_filter.1 hx).1
    exact⟨by show 0≤x.key.v;omega,by show x.key.v<200;omega,by show 0≤x.d;omega,by show x.d≤200;omega⟩
  ·exact zr
 ·exact zr
theorem zFn{id code:Int}(hid:0≤id∧id≤2147483647)(hc:0≤code∧code≤1000):RepOk (repOf id code zAn) zAn.hits:=
 ⟨hid,hc,by simp [repOf,zAn],by simp [zAn],fun _=>by simp [repOf,zAn],by simp [repOf,zAn],by simp [zAn],by simp [zAn]⟩
section
variable {g:GrD} {q:QyD}
end
section
variable {g:GrD} {c:CfD}
theorem zKo{h:Hs}(hj:j≠k):(stepS g c h k).1.getD j none=h.getD j none:=by
 have q_:=zFe (g:=g) (c:=c) (h:=h) (k:=k)
 rcases q_ with ⟨_,h1⟩|⟨x2,i2,e2,h1⟩
 ·rw [h1]
 ·have q_:=zAC e2
  obtain⟨hk,_⟩:=q_
  rcases h1 with ⟨_,h2⟩|⟨_,_,h2⟩|⟨_,_,_,h2⟩|⟨_,_,_,h2⟩ <;> rw [h2] <;> dsimp only <;> rw [zAG hk,if_neg hj]
theorem zK6{h:Hs}(hk:k∈usedS h):∃x i,h.getD k none=some (x,i):=by
 unfold usedS at hk
 have q_:=zDE.1 hk
 obtain⟨_,h1⟩:=q_
 cases e:h.getD k none with
 |none=>rw [e] at h1;cases h1
 |some p=>exact⟨p.1,p.2,rfl⟩
theorem zM2(h:Hs):(usedS h).Nodup:=List.nodup_range.filter _
end
noncomputable def stepR (g:GrD) (c:CfD) (h:Hs) (k:Nat):Option (Int×Int×AnP):=match h.getD k none with
 |none=>none
 |some (x,i) =>
  if overS g c (h.set k (some (x,i+1))) then some (x.id,250,zAn)
  else if (doneL g x.q (sts g x.q k (i+1)) (mls g x.q k (i+1))).2 then some (x.id,0,(doneL g x.q (sts g x.q k (i+1)) (mls g x.q k (i+1))).1)
  else if c.budget≤i+1 then some (x.id,251,zAn) else none
noncomputable def bytR (p:Int×Int×AnP):List UInt8:=repB p.1 p.2.1 p.2.2
section
variable {g:GrD} {c:CfD}
theorem zDF(h:Hs)(k:Nat):(stepS g c h k).2=(stepR g c h k).map bytR∧repIds g c h k=((stepR g c h k).map (·.1)).toList:=by
 unfold repIds stepS stepR
 cases e:h.getD k none with
 |none=>exact⟨rfl,rfl⟩
 |some p =>
  obtain⟨x,i⟩:=p
  dsimp only
  split
  ·exact⟨rfl,rfl⟩
  ·split
   ·exact⟨rfl,rfl⟩
   ·split
    ·exact⟨rfl,rfl⟩
    ·exact⟨rfl,rfl⟩
def TickRep (g:GrD) (c:CfD) (h:Hs) (p:Int×Int×AnP):Prop:=
 ∃x k i,k<h.length∧h.getD k none=some (x,i)∧RqOk g x∧x.id=p.1∧i+1≤c.budget∧k≤1000 ∧
  (p.2=(250,zAn)∨p.2=(251,zAn) ∨
   (doneL g x.q (sts g x.q k (i+1)) (mls g x.q k (i+1))).2=true∧p.2=(0,(doneL g x.q (sts g x.q k (i+1)) (mls g x.q k (i+1))).1))
theorem zLZ{l:List RqD}{h:Hs}(hc:CfOk c)(s:SvOk g c ⟨l,h⟩){p:Int×Int×AnP}(hp:stepR g c h k=some p):TickRep g c h p:=by
 unfold stepR at hp
 cases e:h.getD k none with
 |none=>rw [e] at hp;cases hp
 |some q =>
  obtain⟨x,i⟩:=q
  rw [e] at hp
  have q_:=zAC e
  obtain⟨hk,hm⟩:=q_
  have hx:=s.held x i hm
  have hl:=s.len
  have hsl:=hc.slots.2
  dsimp only at hp hl hk
  refine⟨x,k,i,hk,e,hx.1,?_⟩
  split at hp
  ·cases hp;exact⟨rfl,by omega,by omega,.inl rfl⟩
  ·split at hp
   ·rename_i h2
    cases hp;exact⟨rfl,by omega,by omega,.inr (.inr ⟨h2,rfl⟩)⟩
   ·split at hp
    ·cases hp;exact⟨rfl,by omega,by omega,.inr (.inl rfl)⟩
    ·cases hp
theorem TickRep.ok(hg:GrOk g){h:Hs}{p:Int×Int×AnP}(t:TickRep g c h p):RepOk (repOf p.1 p.2.1 p.2.2) p.2.2.hits∧(p.2.1=0∨p.2.1=250∨p.2.1=251):=by
 obtain⟨id,code,a⟩:=p
 obtain⟨x,k,i,hk,e,hr,rfl,_,hk2,h1⟩:=t
 rcases h1 with h1|h1|⟨_,h1⟩
 ·cases h1;exact⟨zFn hr.id (by dsimp only;decide),by simp⟩
 ·cases h1;exact⟨zFn hr.id (by dsimp only;decide),by simp⟩
 ·cases h1;exact⟨zLk hg hr.q.ok hk2 hr.id,by simp⟩
end
section
variable {g:GrD} {c:CfD} {h:Hs} {k:Nat} {x:RqD} {i:Nat}
theorem zHo(e:h.getD k none=some (x,i))(ho:overS g c (h.set k (some (x,i+1)))=true):stepR g c h k=some (x.id,250,zAn)∧(stepS g c h k).1=h.set k none:=by
 unfold stepR stepS;rw [e];dsimp only;rw [if_pos ho,if_pos ho];exact⟨rfl,rfl⟩
theorem zBU(e:h.getD k none=some (x,i))(ho:overS g c (h.set k (some (x,i+1)))=false)(hd:(doneL g x.q (sts g x.q k (i+1)) (mls g x.q k (i+1))).2=true):
  stepR g c h k=some (x.id,0,(doneL g x.q (sts g x.q k (i+1)) (mls g x.q k (i+1))).1)∧(stepS g c h k).1=h.set k none:=by
 have hn:¬overS g c (h.set k (some (x,i+1)))=true:=by rw [ho];simp
 unfold stepR stepS;rw [e];dsimp only;rw [if_neg hn,if_neg hn,if_pos hd,if_pos hd];exact⟨rfl,rfl⟩
theorem zDG(e:h.getD k none=some (x,i))(ho:overS g c (h.set k (some (x,i+1)))=false)(hd:(doneL g x.q (sts g x.q k (i+1)) (mls g x.q k (i+1))).2=false)(hb:c.budget≤i+1):
  stepR g c h k=some (x.id,251,zAn)∧(stepS g c h k).1=h.set k none:=by
 have hn:¬overS g c (h.set k (some (x,i+1)))=true:=by rw [ho];simp
 have hn2:¬(doneL g x.q (sts g x.q k (i+1)) (mls g x.q k (i+1))).2=true:=by rw [hd];simp
 unfold stepR stepS;rw [e];dsimp only;rw [if_neg hn,if_neg hn,if_neg hn2,if_neg hn2,if_pos hb,if_pos hb];exact⟨rfl,rfl⟩
theorem zDb(e:h.getD k none=some (x,i))(ho:overS g c (h.set k (some (x,i+1)))=false)(hd:(doneL g x.q (sts g x.q k (i+1)) (mls g x.q k (i+1))).2=false)(hb:¬c.budget≤i+1):
  stepR g c h k=none∧(stepS g c h k).1=h.set k (some (x,i+1)):=by
 have hn:¬overS g c (h.set k (some (x,i+1)))=true:=by rw [ho];simp
 have hn2:¬(doneL g x.q (sts g x.q k (i+1)) (mls g x.q k (i+1))).2=true:=by rw [hd];simp
 unfold stepR stepS;rw [e];dsimp only;rw [if_neg hn,if_neg hn,if_neg hn2,if_neg hn2,if_neg hb,if_neg hb];exact⟨rfl,rfl⟩
end
end Go.W
namespace Go.W
open Go Go.Proofs
open Enc (enc)
set_option maxRecDepth 10000
variable {B i j k m n n3:Nat} {P:Program} {R:Nat → Prop} {a a' a3:Option Addr} {g:GrD} {ps:List Int} {q:QyD} {u w w' w1 w2:World}
section
variable {kx:Nat} {R:Nat→Prop} {B:Nat} {w0 w w':World} {bs:Nat} {g:GrD} {c:CfD} {s:SvD} {Ls:Nat→List StD} {K:SrvK} {wt hd:SV} {lw:List RReq} {lh:List RHeld} {lj:List RJob} {RW:Nat→Nat→Prop}
theorem zG4{hs:Hs}{k0:Nat}{j':RJob}{d:RqD}{i':Nat}(hk:k0<hs.length)(e:hs.getD k0 none=some (d,i))(H:∀k (h:k<lh.length) (h':k<lj.length),HeldOk 1000 u g lh[k] lj[k] (hs.getD k none) k)(h:SlF u j'.mails.v (mls g d.q k0 i')∧j'.steps=i'):
  ∀k (h:k<lh.length) (h':k<(lj.set k0 j').length),HeldOk 1000 u g lh[k] (lj.set k0 j')[k] ((hs.set k0 (some (d,i'))).getD k none) k:=fun k h1 h2=>by
 have h3:=H k h1 (by simpa using h2)
 rw [zAG hk]
 by_cases e1:k=k0
 ·subst e1
  rw [if_pos rfl,List.getElem_set_self]
  rw [e] at h3
  exact⟨h3.1,h3.2.1,fun _=>h⟩
 ·rw [if_neg e1,List.getElem_set_ne (Ne.symm e1)]
  exact h3
theorem zE4{hs:Hs}{k0:Nat}{j':RJob}(hl:lh.length≤64)(H:∀k (h:k<lh.length) (h':k<lj.length),HeldOk 1000 u g lh[k] lj[k] (hs.getD k none) k):
  ∀k (h:k<lh.length) (h':k<(lj.set k0 j').length),HeldOk k0 u g lh[k] (lj.set k0 j')[k] (hs.getD k none) k:=fun k h1 h2=>by
 have h3:=H k h1 (by simpa using h2)
 cases e2:hs.getD k none with
 |none=>rw [e2] at h3;exact h3
 |some p =>
  obtain⟨d,i⟩:=p
  rw [e2] at h3
  refine⟨h3.1,h3.2.1,fun hne=>?_⟩
  rw [List.getElem_set_ne (Ne.symm hne)]
  exact h3.2.2 (by omega)
def StepT (R : Nat → Prop) (B : Nat) (bs : Nat) (g : GrD) (c : CfD) (s : SvD) (k0 : Nat) (w : World) (v : Value) (w' : World) : Prop :=
  (∃ (y : RepD) (all : Bool), v = .tuple #[agg y, .bool all] ∧
    ((all = true ∧ ∃ p Ls K wt hd lw lh lj RW, stepR g c s.held k0 = some p ∧ y.id = p.1 ∧ y.code = p.2.1 ∧ y.a.found = p.2.2.found ∧ y.a.num = p.2.2.num ∧ Fz (mutS bs K.bj c.workers RW) (gR R w w') w' (fun u => SlF u (.slice y.a.s.a y.a.s.n y.a.s.c) p.2.2.hits) ∧
        SrvR k0 (gR R w w') B w' bs g c s Ls K wt hd lw lh lj RW ∧ ButS g c.workers s.held k0 Ls ∧ (stepS g c s.held k0).1 = s.held.set k0 none) ∨
     (all = false ∧ stepR g c s.held k0 = none ∧ SrvP (gR R w w') B w' bs g c ⟨s.wait, (stepS g c s.held k0).1⟩))) ∧ Fr R w w'
def zRp (id code:Int):RepD:=⟨id,code,⟨false,0,⟨none,0,0⟩⟩⟩
theorem zA1{k0:Nat}{x0:RqD}(hk:k0<s.held.length):ButS g c.workers s.held k0 (wkS g c.workers (aftS s.held k0 x0 i)):=fun k=>⟨zBg ..,fun x hs=>by rw [zAB,zAB,zBi hk hs]⟩
set_option maxHeartbeats 4000000 in
theorem zGJ{k0:Nat}{x0:RqD}{c3:Nat}(S:SrvP R B w bs g c s)(hB:B≤w.heap.size)(hu:s.held.getD k0 none=some (x0,i))(h3:SlF w (.slice a3 n3 c3) ps):
  Sp PP F.zl #[.pointer (some ⟨bs,0,none⟩),.int .i64 (k0:Int),.slice a3 n3 c3] w (StepT R B bs g c s k0 w):=by
 have SP:=S
 obtain⟨K,wt,hd,lw,lh,lj,RW,S⟩:=S
 have q_:=zAC hu
 obtain⟨hk,hm⟩:=q_
 have F0:=S.fz.here
 have hlen:=S.so.len
 have hrq:=(S.so.held x0 i hm).1
 have hib:=(S.so.held x0 i hm).2
 have hg2:=S.gi.ok.n2
 have hW:=S.ci.workers
 have hsl:=S.ci.slots
 have hbu:=S.ci.budget
 have hgi:=S.gi
 have hps:=S.ps
 have hkh:k0<lh.length:=by rw [F0.lhn];exact hk
 have hkj:k0<lj.length:=by rw [F0.ljn];exact hk
 have hHd:=F0.helds k0 hkh hkj
 rw [hu] at hHd
 obtain⟨hus,hrv,hjb⟩:=hHd
 have hjb:=hjb (by omega)
 have hsteps:=hjb.2
 have hwn:=F0.wkn
 have hhn:=F0.fh.len
 have hRlt:=SP.lo
 have hmay:∀{j:Nat} {x:StD},x∈sts g x0.q k0 j→mayX x∧x.key.v<g.n∧0≤x.d∧x.d<g.n:=fun {j x} hx=>by
  have:=zGM hrq.q.ok hg2 (by omega) hx
  exact⟨this.1,this.2.1,this.2.2.1,this.2.2.2.1⟩
 have hmm:∀{j:Nat} {x:StD},x∈mls g x0.q k0 j→mayX x∧x.key.v<g.n∧0≤x.d∧x.d<g.n:=fun {j x} hx=>zJA hrq.q.ok hg2 (by omega) hx
 have hsn:∀j,(sts g x0.q k0 j).length≤400:=fun j=>by
  rw [zJO]
  have:=sn_le (dir:=0) hrq.q.ok j
  have:=sn_le (dir:=1) hrq.q.ok j
  omega
 have hmn:∀j,(mls g x0.q k0 j).length≤400:=fun j=>by
  have h1:=hsn (j+1)
  have h2:=(zBL (mls g x0.q k0 j) (sts g x0.q k0 j)).length_eq
  have h4:sts g x0.q k0 (j+1)=insAll (mls g x0.q k0 j) (sts g x0.q k0 j):=rfl
  rw [←h4,List.length_append] at h2;omega
 have hlaw:=zL0 (g:=g) (q:=x0.q) (slot:=(k0:Int)) hgi.ok i
 have q_:∃rr,lh[k0]? = some rr:=⟨lh[k0],List.getElem?_eq_getElem hkh⟩
 obtain⟨rr,hrr⟩:=q_
 have q_:∃jj,lj[k0]? = some jj:=⟨lj[k0],List.getElem?_eq_getElem hkj⟩
 obtain⟨jj,hjj⟩:=q_
 have er:lh[k0]=rr:=by rw [List.getElem?_eq_getElem hkh] at hrr;exact Option.some.inj hrr
 have ej:lj[k0]=jj:=by rw [List.getElem?_eq_getElem hkj] at hjj;exact Option.some.inj hjj
 rw [er] at hus hrv
 rw [ej] at hjb hsteps
 have hmailn:jj.mails.n=(mls g x0.q k0 i).length:=SlF.len (a:=jj.mails.a) (c:=jj.mails.c) hjb.1
 have hHd2:Fz (mutS bs K.bj c.workers RW) R w fun u=>RqV u rr.r x0∧SlF u jj.mails.v (mls g x0.q k0 i):=S.fz.imp fun u Fa=>by
  have:=Fa.helds k0 hkh hkj
  rw [hu,er,ej] at this
  exact⟨this.2.1,(this.2.2 (by omega)).1⟩
 have hjbl:=(S.reg _ S.rj).2
 have hbsl:=(S.reg _ S.rs).2
 refine en TBok rfl ?_
 refine ral fun b6 w1 n1 Y1=>?_
 have hb6:=n1.lo (u:=w)
 have hb6l:=n1.lt
 have hrow:=F0.fh.lt (fun h=>by rw [h] at hkh;simp at hkh)
 refine drawRT TBok mixed (fun i=>w.heap.size≤i) (.one 0 (.one 1 (.one 2 (.one 3 (.one 4 (.one 5 (.one 6 (.one 7 (.one 8 (.one 9 (.one 10 (.one 11 (.one 12 (.one 13 (.one 14 (.two 15 (.one 16 (.one 17 (.one 18 .nil))) 16 (.one 15 (.one 17 (.one 18 .nil))))))))))))))))))) (by kernel_rfl) fun w2 e2 _=>?_
 refine tld (B:=S.cell) rfl (by omega) ?_
 refine tix (S.fz.at (w':=w2)).fh hrr fun b o A hb=>tloadA (cs:=enc rr.r) (A.sub 1 8) (Enc.len _) ?_ ?_
 ·obtain⟨b',h1,h2⟩:=hrow
  rw [hb] at h1;cases h1;omega
 refine tld (B:=S.cell) rfl (by omega) ?_
 refine tix (S.jobs.up (w':=w2)).sl hjj fun b o A hb=>tloadA A (Enc.len _) ?_ ?_
 ·cases hb;exact Nat.not_le.2 hjbl
 refine⟨?_,?_⟩
 ·refine ral fun bx w3 n3 X3=>⟨Fr.fr n3.e,?_⟩
  refine ral fun bJ w4 n4 JJ4=>⟨Fr.fr n4.e,?_⟩
  have hbx:=n3.lo (u:=w)
  have hbJ:=n4.lo (u:=w)
  have hbx1:=n3.lo (u:=w1)
  have hbJ1:=n4.lo (u:=w1)
  have hbxj:¬bJ=bx:=by have:=n4.b;have:=n3.lt;omega
  have X4:=X3.mv (w:=w4)
  refine rsto (B:=X4) (vs:=enc rr.r) rfl rfl rfl (Enc.one _) fun w5 X5 f5 _=>?_
  have X5:Bk w5 bx (enc rr.r) E.qc:=X5
  have s5:Stp w1 w5:=⟨Fr.st (Le.e (a:=w1) (b:=w4)) f5 fun i hi=>by omega⟩
  have JJ5:=JJ4.fr f5 hbxj
  refine⟨f5.mono fun i _ hi=>by omega,?_⟩
  refine rsto (B:=JJ5) (vs:=enc jj) rfl rfl rfl (Enc.one _) fun w6 JJ6 f6 _=>?_
  have JJ6:Bk w6 bJ (enc jj) E.qy:=JJ6
  have s6:Stp w1 w6:=⟨Fr.st s5.e f6 fun i hi=>by omega⟩
  have X6:=X5.fr f6 (fun h=>hbxj h.symm)
  refine⟨f6.mono fun i _ hi=>by omega,?_⟩
  clear X4 JJ4 X5 JJ5
  refine rld (B:=X6) rfl ?_
  refine rbuild (cs:=enc (zRp rr.r.id 0)) rfl ?_
  refine ral fun by' w7 n7 Y7=>?_
  have hby:=n7.lo (u:=w)
  have hby6:b6<by':=by have:=n7.b;have:=Le.size (a:=w1) (b:=w6);omega
  refine rsto (B:=Y7) (vs:=enc (zRp rr.r.id 0)) rfl rfl rfl (Enc.one _) fun w8 Y8 f8 _=>?_
  have Y8:Bk w8 by' (enc (zRp rr.r.id 0)) E.qe:=Y8
  have s8:Stp w6 w8:=⟨Fr.st (Le.e (a:=w6) (b:=w7)) f8 fun i hi=>by have:=n7.b;omega⟩
  clear Y7 f8
  have X8:=X6.mv (w:=w8)
  have JJ8:=JJ6.mv (w:=w8)
  refine drawR TBok mixed (fun _=>False) [0,1,2,3,4,5,6,7,9,10,11,12,13,14,15,16,8,17,18,19,20,21,22,23,24] (by kernel_rfl) fun w9 e9 _=>?_
  refine tldG (ds:=enc rr.r.q) (B:=X8) rfl (Enc.len _) not_false ?_
  refine tldG (ds:=enc K.xr) (B:=S.cell) rfl (Enc.len _) not_false ?_
  refine tld (B:=JJ8) rfl not_false (tld (B:=S.cell) rfl not_false ?_)
  refine rcall (zCr (SrvP.up (w':=w9) SP) hk) ?_
  rintro _ w10 ⟨O10,e10⟩
  rw [hu] at O10
  have O10:Own w9.heap.size E.qf w10 _ (sts g x0.q k0 i):=O10
  have q_:=O10.shape
  obtain⟨sa,sc,rfl⟩:=q_
  refine⟨e10.e,?_⟩
  have Fu:=S.fz.at (w':=w10)
  have hV:=(hHd2.at (w':=w10))
  have D:=zDX (W:=c.workers) (xq:=rr.r.q) (S:=sts g x0.q k0 i) (M:=mls g x0.q k0 i) hgi Fu.rows ⟨hV.1.q.kind,hV.1.q.rad⟩ O10.sl hV.2 (h3.up (w':=w10)) hW (zGN i) (fun x hx=>⟨(hmay hx).1,(hmay hx).2.1⟩) (fun x hx=>⟨(hmm hx).1,(hmm hx).2.1⟩) (by have:=hsn i;omega) (hmn i)
  rw [hlaw] at D
  refine rcall D ?_
  rintro _ w11 ⟨⟨v1,v2,rfl,O11,M11⟩,e11⟩
  dsimp only at O11 M11
  refine⟨e11.e,?_⟩
  have q_:=O11.shape
  obtain⟨sa2,sc2,rfl⟩:=q_
  have q_:=M11.shape
  obtain⟨ma2,mc2,rfl⟩:=q_
  refine ite (fun h=>absurd rfl h) (fun _=>?_)
  have z9:=Le.size (a:=w) (b:=w9)
  have z10:=e10.e.size
  have z11:=e11.e.size
  have ly:=(Y8.mv (w:=w9)).lt
  have lq:=(Y1.mv (w:=w9)).lt
  have lx:=(X8.mv (w:=w9)).lt
  have lJ:=(JJ8.mv (w:=w9)).lt
  refine rcall (zDa (S.up (w':=w11)) (Nat.le_trans hB (Le.size (a:=w) (b:=w11))) hu O11 (fun i hi=>by have:=hRlt i hi;omega)) ?_
  rintro _ w12 ⟨⟨b,Ls,RW2,rfl,S2,GR2,hov,hbut,hall⟩,fa12⟩
  have f12:Fr R w11 w12:=fa12.mono fun i _ ⟨k,hk,h⟩=>(S.rw k hk i h).1
  have m12:Fr (mutS bs K.bj c.workers RW) w w12:=(Fr.fr (Le.e (a:=w) (b:=w11))).trans (fa12.mono fun i _ h=>zBn h)
  have hnR:∀{b:Nat},w.heap.size≤b→¬R b:=fun {b} hb h=>by have:=hRlt b h;omega
  have Y12:=(Y8.mv (w:=w11)).fr f12 (hnR hby)
  have Q12:=(Y1.mv (w:=w11)).fr f12 (hnR hb6)
  have X12:=(X8.mv (w:=w11)).fr f12 (hnR hbx)
  have JJ12:=(JJ8.mv (w:=w11)).fr f12 (hnR hbJ)
  have O12:=O11.fr f12 fun b hb _=>hnR (by omega)
  have M12:=M11.fr f12 fun b hb _=>hnR (by omega)
  have z12:=f12.size
  have fR12:Fr R w w12:=(Fr.fr (Le.e (a:=w) (b:=w11))).trans f12
  have hov2:overS g c (s.held.set k0 (some (x0,i+1))) = !b:=hov
  cases b with
  |false =>
   have q_:=zHo hu hov2
   obtain⟨q1,q2⟩:=q_
   refine rsto (B:=Y12) (vs:=[.int .i64 250]) rfl rfl rfl (zAg _) fun w13 Y13 f13 _=>?_
   have Y13:Bk w13 by' (enc (zRp rr.r.id 250)) E.qe:=Y13
   have Q13:=Q12.fr f13 (by omega)
   refine rldG (ds:=enc (zRp rr.r.id 250)) (B:=Y13) rfl (Enc.len _) ?_
   refine rsto (B:=Q13) (vs:=enc (zRp rr.r.id 250)) rfl rfl rfl (Enc.one _) fun w14 Q14 f14 _=>?_
   have Q14:Bk w14 b6 (enc (zRp rr.r.id 250)) E.qe:=Q14
   refine rresG (B:=Q14) rfl ?_
   have f1214:Fr (fun i=>w.heap.size≤i∧i<w9.heap.size) w12 w14:=(f13.mono fun i _ hi=>by omega).trans (f14.mono fun i _ hi=>by omega)
   have fR14:Fr R w w14:=fR12.join f1214 (fun _ _ h=>h) fun i hi h=>by omega
   have z14:=f1214.size
   have SX2:=(S2.away f1214 (fun i hi h=>by rcases h with h|h;exact hnR hi.1 h;omega)).wide (R':=gR R w w14) (fun i hi=>hi.imp id fun h=>by omega) fun i hi=>by
    have:=(SrvX.reg SP).1
    rcases hi with hi|hi
    ·have:=this i hi;omega
    ·omega
   exact⟨⟨zRp rr.r.id 250,true,rfl,.inl ⟨rfl,_,Ls,K,wt,hd,lw,lh,lj,RW2,q1,hrv.id,rfl,rfl,rfl,(fun u _=>SlF.nil u),SX2.loose k0,hbut,q2⟩⟩,fR14⟩
  |true =>
   have hLs:=hall rfl
   subst hLs
   have hreg:=(SrvX.reg SP).1
   have hM2:∀i,mutS bs K.bj c.workers RW2 i→mutS bs K.bj c.workers RW i∨w11.heap.size≤i:=fun i h=>by
    rcases h with h|h|⟨k,hk,h⟩
    ·exact .inl (.inl h)
    ·exact .inl (.inr (.inl h))
    ·exact(GR2 k hk i h).imp (fun h1=>.inr (.inr ⟨k,hk,h1⟩)) id
   have S2:=S2.wide (R':=gR R w9 w12) (fun i hi=>hi.imp id fun h=>by omega) fun i hi=>by
    rcases hi with hi|hi
    ·have:=hreg i hi;omega
    ·omega
   have F2:=S2.fz.here
   have hkj2:k0<lj.length:=by rw [F2.ljn];exact hk
   have hlh:lh.length≤64:=by rw [F2.lhn];omega
   have hnb:∀{b:Nat},w.heap.size≤b→¬b=K.bj:=fun {b} h1 h=>by omega
   have q_:∃nj:RJob,nj=⟨⟨ma2,(mls g x0.q k0 (i+1)).length,mc2⟩,((i+1:Nat):Int)⟩:=⟨_,rfl⟩
   obtain⟨nj,hnj⟩:=q_
   refine drawR TBok mixed (fun i=>i=K.bj) [0,1,2,3,4,5,6,7,8,9,10,11] (by kernel_rfl) fun w13 e13 _=>?_
   refine tld (B:=S2.cell) rfl (fun h=>S2.ne h) ?_
   refine tld (B:=JJ12) rfl (hnb hbJ) ?_
   refine rarE (y:=((i+1:Nat):Int)) (by rw [hsteps];push_cast;rfl) (by omega) ?_
   refine tbuild (cs:=enc nj) (by rw [hnj];rfl) ?_
   have J13:=S2.jobs.up (w':=w13)
   refine tixO rfl J13 (x:=lj[k0]) (by simp) fun gj hgj _ _=>?_
   refine rstO' rfl nj J13 hgj hkj rfl fun w14 J14 f14 _=>?_
   have f14:Fr (fun i=>i=K.bj) w13 w14:=f14.mono fun i _ hi=>bjD hi
   refine⟨f14,?_⟩
   have Y14:=(Y12.mv (w:=w13)).fr f14 (hnb hby)
   have Q14:=(Q12.mv (w:=w13)).fr f14 (hnb hb6)
   have X14:=(X12.mv (w:=w13)).fr f14 (hnb hbx)
   have JJ14:=(JJ12.mv (w:=w13)).fr f14 (hnb hbJ)
   have C14:=(S2.cell.mv (w:=w13)).fr f14 S2.ne
   have f1214:Fr (fun i=>i=K.bj) w12 w14:=(Fr.fr (Le.e (a:=w12) (b:=w13))).trans f14
   have m1214:Fr (mutS bs K.bj c.workers RW2) w12 w14:=f1214.mono fun i _ h=>.inr (.inl h)
   have O14:SlF w14 (.slice sa2 (sts g x0.q k0 (i+1)).length sc2) (sts g x0.q k0 (i+1)):=by
    by_cases hl:sts g x0.q k0 (i+1)=[]
    ·rw [hl];exact SlF.nil' _ _ _
    ·have q_:=O11.lt hl
     obtain⟨gq,g1,g2,g3⟩:=q_
     exact O12.sl.fr f1214 fun b hb h=>by rw [g1] at hb;cases hb;omega
   have M14:SlF w14 (.slice ma2 (mls g x0.q k0 (i+1)).length mc2) (mls g x0.q k0 (i+1)):=by
    by_cases hl:mls g x0.q k0 (i+1)=[]
    ·rw [hl];exact SlF.nil' _ _ _
    ·have q_:=M11.lt hl
     obtain⟨gq,g1,g2,g3⟩:=q_
     exact M12.sl.fr f1214 fun b hb h=>by rw [g1] at hb;cases hb;omega
   have T14:=S2.st.away f1214 fun k hk i hi h=>(S2.rw k hk i hi).2.2 h
   have F14:=S2.fz w14 (m1214.mono fun i _ h=>.inl h)
   have hV14:RqV w14 rr.r x0:=(hHd2 w14 ((m12.trans (f1214.mono fun i _ h=>.inr (.inl h))).mono fun i _ h=>.inl h)).1
   have z14:=f1214.size
   have hwn2:=F2.words.len
   have hBw:B≤w12.heap.size:=by omega
   have wide:∀{u:World},w14.heap.size≤u.heap.size→(∀i,gR (gR R w9 w12) w12 w14 i→gR R w u i)∧∀i,gR R w u i→B≤i∧i<u.heap.size:=fun {u} hz=>by
    refine⟨fun i hi=>?_,fun i hi=>?_⟩
    ·rcases hi with (hi|hi)|hi
     ·exact .inl hi
     ·exact .inr (by omega)
     ·exact .inr (by omega)
    ·rcases hi with hi|hi
     ·have:=hreg i hi;omega
     ·omega
   have apart:∀i,(w.heap.size≤i∧i<w9.heap.size)∨w14.heap.size≤i→¬gR (gR R w9 w12) w12 w14 i:=fun i h hi=>by
    rcases hi with (hi|hi)|hi
    ·have:=hRlt i hi;omega
    ·omega
    ·omega
   have fR14:Fr R w w14:=fR12.trans (f1214.mono fun i _ h=>h ▸ S.rj)
   have mF:∀{u:World},Fr (fun i=>(w.heap.size≤i∧i<w9.heap.size)∨w14.heap.size≤i) w14 u→Fr R w u:=fun {u} f=>fR14.join f (fun _ _ h=>h) fun i hi h=>by omega
   have mZ:∀{u:World},Fr (fun i=>(w.heap.size≤i∧i<w9.heap.size)∨w14.heap.size≤i) w14 u→SrvR k0 (gR R w u) B u bs g c s (wkS g c.workers (aftS s.held k0 x0 i)) K wt hd lw lh (lj.set k0 nj) RW2:=fun {u} f =>
    ((S2.fin (w1:=w12) (w':=w14) (kx':=k0) (s':=s) (Ls':=wkS g c.workers (aftS s.held k0 x0 i)) (Nat.le_refl _) m1214 hBw C14 J14 T14 (.refl _) S2.so
     ((S2.fz1 (w':=w12)).imp fun u Fa=>⟨Fa.rows,Fa.pos,Fa.words,Fa.wk,Fa.fw,Fa.fh,Fa.lwn,Fa.waits,Fa.lhn,by simp [Fa.ljn],zE4 hlh Fa.helds⟩)).away f apart).wide (wide f.size).1 (wide f.size).2
   have Zm:Fz (mutS bs K.bj c.workers RW2) (gR (gR R w9 w12) w12 w12) w12 fun u=>SlF u (.slice ma2 (mls g x0.q k0 (i+1)).length mc2) (mls g x0.q k0 (i+1)):=
    M11.fzB M12.sl fun i h1 h2=>⟨.inl (.inr (by omega)),fun h=>by
     have q_:=hM2 i h
     rcases q_ with h4|h4
     ·have:=hRlt i (S.mut h4);omega
     ·omega⟩
   have mP:∀{u:World},Fr (fun i=>(w.heap.size≤i∧i<w9.heap.size)∨w14.heap.size≤i) w14 u→SvOk g c ⟨s.wait,aftS s.held k0 x0 i⟩→SrvP (gR R w u) B u bs g c ⟨s.wait,aftS s.held k0 x0 i⟩:=fun {u} f hok =>
    ⟨K,wt,hd,lw,lh,lj.set k0 nj,RW2,((S2.fin (w1:=w12) (w':=w14) (kx':=1000) (s':=⟨s.wait,aftS s.held k0 x0 i⟩) (Ls':=wkS g c.workers (aftS s.held k0 x0 i)) (Nat.le_refl _) m1214 hBw C14 J14 T14 (.refl _) hok
     (((S2.fz1 (w':=w12)).and Zm).imp fun u ⟨Fa,Sm⟩=>⟨Fa.rows,Fa.pos,Fa.words,Fa.wk,Fa.fw,Fa.fh,Fa.lwn,Fa.waits,by simp [Fa.lhn],by simp [Fa.ljn],zG4 hk hu Fa.helds ⟨by rw [hnj];exact Sm,by rw [hnj]⟩⟩)).away f apart).wide (wide f.size).1 (wide f.size).2⟩
   clear wide Zm
   have hok:=(zJN k0 S.so).1
   have q_:∃an,an=(doneL g x0.q (sts g x0.q k0 (i+1)) (mls g x0.q k0 (i+1))).1:=⟨_,rfl⟩
   obtain⟨an,han⟩:=q_
   have q_:∃dn,dn=(doneL g x0.q (sts g x0.q k0 (i+1)) (mls g x0.q k0 (i+1))).2:=⟨_,rfl⟩
   obtain⟨dn,hdn⟩:=q_
   have DD:∀{u:World},Le w14 u→Sp PP F.yd #[agg rr.r.q,.slice K.ws.a K.ws.n K.ws.c,.slice sa2 (sts g x0.q k0 (i+1)).length sc2,.slice ma2 (mls g x0.q k0 (i+1)).length mc2] u fun v w'=>(∃v1,v=.tuple #[v1,.bool dn]∧AnsO u.heap.size w' v1 an)∧Stp u w':=fun {u} L=>by
    have D:=zEt (hV14.q.up (w':=u)) hrq.q.ok hgi (F14.words.up (w':=u)) (F14.pos.up (w':=u)) (by omega) (O14.up (w':=u)) (by have:=hsn (i+1);omega) (fun x hx=>by have:=hmay hx;omega) (M14.up (w':=u)) (by have:=hmn (i+1);omega)
    rw [←han,←hdn] at D
    exact D
   have lbs:bs<w14.heap.size:=by omega
   have lbx:bx<w14.heap.size:=by omega
   have lbJ:bJ<w14.heap.size:=by omega
   refine drawRT TBok mixed (fun i=>w14.heap.size≤i) (.one 0 (.one 1 (.one 2 (.one 3 (.one 4 (.one 5 (.one 6 (.one 7 (.two 8 (.one 9 (.one 10 (.one 11 (.one 12 (.one 13 (.one 14 .nil)))))) 12 (.one 8 (.one 9 (.one 10 (.one 11 (.one 13 (.one 14 .nil))))))))))))))) (by kernel_rfl) fun w15 e15 _=>?_
   refine tldG (ds:=enc rr.r.q) (B:=X14) rfl (Enc.len _) (by omega) ?_
   refine tld (B:=C14) rfl (by omega) ?_
   refine⟨?_,?_⟩
   ·refine rcall (DD (u:=w15) inferInstance) ?_
    rintro _ w16 ⟨⟨v1,rfl,ax,rfl,ha1,ha2,OA⟩,e16⟩
    refine⟨Fr.fr e16.e,?_⟩
    refine ral fun ba w17 n17 A17=>⟨Fr.fr n17.e,?_⟩
    have hba:=n17.lo (u:=w14)
    refine rsto (B:=A17) (vs:=enc ax) rfl rfl rfl (Enc.one _) fun w18 A18 f18 _=>?_
    have A18:Bk w18 ba (enc ax) E.qi:=A18
    refine⟨f18.mono fun i _ h=>by omega,?_⟩
    have s18:Stp w14 w18:=⟨Fr.st (Le.e (a:=w14) (b:=w17)) f18 fun i h=>by omega⟩
    have hn17:=n17.b
    have OA18:=((OA.up (w':=w17)).frc f18 A17 (by decide)).mono (B':=w14.heap.size) (Le.size (a:=w14) (b:=w15))
    have Y18:=Y14.mv (w:=w18)
    have Q18:=Q14.mv (w:=w18)
    have z18:=Le.size (a:=w14) (b:=w18)
    have fl18:Fr (fun i=>(w.heap.size≤i∧i<w9.heap.size)∨w14.heap.size≤i) w14 w18:=Fr.fr (Le.e (a:=w14) (b:=w18))
    cases dn with
    |true =>
     have q_:=zBU hu hov2 hdn.symm
     obtain⟨q1,q2⟩:=q_
     rw [←han] at q1
     refine rldG (ds:=enc ax) (B:=A18) rfl (Enc.len _) ?_
     refine rsto (B:=Y18) (vs:=enc ax) rfl rfl rfl (Enc.one _) fun w19 Y19 f19 _=>?_
     have Y19:Bk w19 by' (enc (⟨rr.r.id,0,ax⟩:RepD)) E.qe:=Y19
     have Q19:=Q18.fr f19 (by omega)
     refine rldG (ds:=enc (⟨rr.r.id,0,ax⟩:RepD)) (B:=Y19) rfl (Enc.len _) ?_
     refine rsto (B:=Q19) (vs:=enc (⟨rr.r.id,0,ax⟩:RepD)) rfl rfl rfl (Enc.one _) fun w20 Q20 f20 _=>?_
     have Q20:Bk w20 b6 (enc (⟨rr.r.id,0,ax⟩:RepD)) E.qe:=Q20
     refine rresG (B:=Q20) rfl ?_
     have fl:=(fl18.trans (f19.mono fun i _ h=>.inl (by omega))).trans (f20.mono fun i _ h=>.inl (by omega))
     have OA20:=((OA18.fr f19 fun b hb _ h=>by omega).fr f20 fun b hb _ h=>by omega)
     have SZ:=mZ fl
     exact⟨⟨⟨rr.r.id,0,ax⟩,true,rfl,.inl ⟨rfl,_,_,K,wt,hd,lw,lh,_,RW2,q1,hrv.id,rfl,ha1,ha2,OA20.fz (fun i h1 h2=>⟨.inr ⟨by omega,h2⟩,fun h=>by have:=(S2.reg i (S2.mut h)).2;omega⟩),SZ,zA1 hk,q2⟩⟩,mF fl⟩
    |false =>
     refine drawR TBok mixed (fun _=>False) (upF 10 0) (by kernel_rfl) fun w19 e19 _=>?_
     refine tld (B:=JJ14) rfl not_false ?_
     refine rarE (y:=((i+1:Nat):Int)) (by rw [hsteps];push_cast;rfl) (by omega) ?_
     refine tld (B:=C14) rfl not_false ?_
     have Y19:=Y18.mv (w:=w19)
     have Q19:=Q18.mv (w:=w19)
     have fl19:=fl18.trans (Fr.fr (Le.e (a:=w18) (b:=w19)))
     refine ite (fun hbd=>?_) (fun hbd=>?_)
     ·have q_:=zDG hu hov2 hdn.symm (by omega)
      obtain⟨q1,q2⟩:=q_
      refine rsto (B:=Y19) (vs:=[.int .i64 251]) rfl rfl rfl (zAg _) fun w20 Y20 f20 _=>?_
      have Y20:Bk w20 by' (enc (zRp rr.r.id 251)) E.qe:=Y20
      have Q20:=Q19.fr f20 (by omega)
      refine rldG (ds:=enc (zRp rr.r.id 251)) (B:=Y20) rfl (Enc.len _) ?_
      refine rsto (B:=Q20) (vs:=enc (zRp rr.r.id 251)) rfl rfl rfl (Enc.one _) fun w21 Q21 f21 _=>?_
      have Q21:Bk w21 b6 (enc (zRp rr.r.id 251)) E.qe:=Q21
      refine rresG (B:=Q21) rfl ?_
      have fl:=(fl19.trans (f20.mono fun i _ h=>.inl (by omega))).trans (f21.mono fun i _ h=>.inl (by omega))
      exact⟨⟨zRp rr.r.id 251,true,rfl,.inl ⟨rfl,_,_,K,wt,hd,lw,lh,_,RW2,q1,hrv.id,rfl,rfl,rfl,(fun u _=>SlF.nil u),mZ fl,zA1 hk,q2⟩⟩,mF fl⟩
     ·have q_:=zDb hu hov2 hdn.symm (by omega)
      obtain⟨q1,q2⟩:=q_
      refine rldG (ds:=enc (zRp rr.r.id 0)) (B:=Y19) rfl (Enc.len _) ?_
      refine rsto (B:=Q19) (vs:=enc (zRp rr.r.id 0)) rfl rfl rfl (Enc.one _) fun w20 Q20 f20 _=>?_
      have Q20:Bk w20 b6 (enc (zRp rr.r.id 0)) E.qe:=Q20
      refine rresG (B:=Q20) rfl ?_
      have fl:=fl19.trans (f20.mono fun i _ h=>.inl (by omega))
      rw [q2] at hok
      have q3:=mP fl hok
      rw [show aftS s.held k0 x0 i=(stepS g c s.held k0).1 from q2.symm] at q3
      exact⟨⟨zRp rr.r.id 0,false,rfl,.inr ⟨rfl,q1,q3⟩⟩,mF fl⟩
   ·refine ral fun ba w16 n16 A16=>⟨Fr.fr n16.e,?_⟩
    have hba:=n16.lo (u:=w14)
    refine rcall (DD (u:=w16) inferInstance) ?_
    rintro _ w17 ⟨⟨v1,rfl,ax,rfl,ha1,ha2,OA⟩,e17⟩
    refine⟨Fr.fr e17.e,?_⟩
    refine rsto (B:=A16) (vs:=enc ax) rfl rfl rfl (Enc.one _) fun w18 A18 f18 _=>?_
    have A18:Bk w18 ba (enc ax) E.qi:=A18
    refine⟨f18.mono fun i _ h=>by omega,?_⟩
    have s18:Stp w14 w18:=⟨Fr.st (Le.e (a:=w14) (b:=w17)) f18 fun i h=>by omega⟩
    have hn16:=n16.lt
    have OA18:=(OA.fr f18 fun b hb _ h=>by omega).mono (B':=w14.heap.size) (Le.size (a:=w14) (b:=w16))
    have Y18:=Y14.mv (w:=w18)
    have Q18:=Q14.mv (w:=w18)
    have z18:=Le.size (a:=w14) (b:=w18)
    have fl18:Fr (fun i=>(w.heap.size≤i∧i<w9.heap.size)∨w14.heap.size≤i) w14 w18:=Fr.fr (Le.e (a:=w14) (b:=w18))
    cases dn with
    |true =>
     have q_:=zBU hu hov2 hdn.symm
     obtain⟨q1,q2⟩:=q_
     rw [←han] at q1
     refine rldG (ds:=enc ax) (B:=A18) rfl (Enc.len _) ?_
     refine rsto (B:=Y18) (vs:=enc ax) rfl rfl rfl (Enc.one _) fun w19 Y19 f19 _=>?_
     have Y19:Bk w19 by' (enc (⟨rr.r.id,0,ax⟩:RepD)) E.qe:=Y19
     have Q19:=Q18.fr f19 (by omega)
     refine rldG (ds:=enc (⟨rr.r.id,0,ax⟩:RepD)) (B:=Y19) rfl (Enc.len _) ?_
     refine rsto (B:=Q19) (vs:=enc (⟨rr.r.id,0,ax⟩:RepD)) rfl rfl rfl (Enc.one _) fun w20 Q20 f20 _=>?_
     have Q20:Bk w20 b6 (enc (⟨rr.r.id,0,ax⟩:RepD)) E.qe:=Q20
     refine rresG (B:=Q20) rfl ?_
     have fl:=(fl18.trans (f19.mono fun i _ h=>.inl (by omega))).trans (f20.mono fun i _ h=>.inl (by omega))
     have OA20:=((OA18.fr f19 fun b hb _ h=>by omega).fr f20 fun b hb _ h=>by omega)
     have SZ:=mZ fl
     exact⟨⟨⟨rr.r.id,0,ax⟩,true,rfl,.inl ⟨rfl,_,_,K,wt,hd,lw,lh,_,RW2,q1,hrv.id,rfl,ha1,ha2,OA20.fz (fun i h1 h2=>⟨.inr ⟨by omega,h2⟩,fun h=>by have:=(S2.reg i (S2.mut h)).2;omega⟩),SZ,zA1 hk,q2⟩⟩,mF fl⟩
    |false =>
     refine drawR TBok mixed (fun _=>False) (upF 10 0) (by kernel_rfl) fun w19 e19 _=>?_
     refine tld (B:=JJ14) rfl not_false ?_
     refine rarE (y:=((i+1:Nat):Int)) (by rw [hsteps];push_cast;rfl) (by omega) ?_
     refine tld (B:=C14) rfl not_false ?_
     have Y19:=Y18.mv (w:=w19)
     have Q19:=Q18.mv (w:=w19)
     have fl19:=fl18.trans (Fr.fr (Le.e (a:=w18) (b:=w19)))
     refine ite (fun hbd=>?_) (fun hbd=>?_)
     ·have q_:=zDG hu hov2 hdn.symm (by omega)
      obtain⟨q1,q2⟩:=q_
      refine rsto (B:=Y19) (vs:=[.int .i64 251]) rfl rfl rfl (zAg _) fun w20 Y20 f20 _=>?_
      have Y20:Bk w20 by' (enc (zRp rr.r.id 251)) E.qe:=Y20
      have Q20:=Q19.fr f20 (by omega)
      refine rldG (ds:=enc (zRp rr.r.id 251)) (B:=Y20) rfl (Enc.len _) ?_
      refine rsto (B:=Q20) (vs:=enc (zRp rr.r.id 251)) rfl rfl rfl (Enc.one _) fun w21 Q21 f21 _=>?_
      have Q21:Bk w21 b6 (enc (zRp rr.r.id 251)) E.qe:=Q21
      refine rresG (B:=Q21) rfl ?_
      have fl:=(fl19.trans (f20.mono fun i _ h=>.inl (by omega))).trans (f21.mono fun i _ h=>.inl (by omega))
      exact⟨⟨zRp rr.r.id 251,true,rfl,.inl ⟨rfl,_,_,K,wt,hd,lw,lh,_,RW2,q1,hrv.id,rfl,rfl,rfl,(fun u _=>SlF.nil u),mZ fl,zA1 hk,q2⟩⟩,mF fl⟩
     ·have q_:=zDb hu hov2 hdn.symm (by omega)
      obtain⟨q1,q2⟩:=q_
      refine rldG (ds:=enc (zRp rr.r.id 0)) (B:=Y19) rfl (Enc.len _) ?_
      refine rsto (B:=Q19) (vs:=enc (zRp rr.r.id 0)) rfl rfl rfl (Enc.one _) fun w20 Q20 f20 _=>?_
      have Q20:Bk w20 b6 (enc (zRp rr.r.id 0)) E.qe:=Q20
      refine rresG (B:=Q20) rfl ?_
      have fl:=fl19.trans (f20.mono fun i _ h=>.inl (by omega))
      rw [q2] at hok
      have q3:=mP fl hok
      rw [show aftS s.held k0 x0 i=(stepS g c s.held k0).1 from q2.symm] at q3
      exact⟨⟨zRp rr.r.id 0,false,rfl,.inr ⟨rfl,q1,q3⟩⟩,mF fl⟩
 ·refine ral fun bJ w3 n3 JJ3=>⟨Fr.fr n3.e,?_⟩
  refine ral fun bx w4 n4 X4=>⟨Fr.fr n4.e,?_⟩
  have hbx:=n4.lo (u:=w)
  have hbJ:=n3.lo (u:=w)
  have hbx1:=n4.lo (u:=w1)
  have hbJ1:=n3.lo (u:=w1)
  have hbxj:¬bJ=bx:=by have:=n4.b;have:=n3.lt;omega
  have JJ4:=JJ3.mv (w:=w4)
  refine rsto (B:=X4) (vs:=enc rr.r) rfl rfl rfl (Enc.one _) fun w5 X5 f5 _=>?_
  have X5:Bk w5 bx (enc rr.r) E.qc:=X5
  have s5:Stp w1 w5:=⟨Fr.st (Le.e (a:=w1) (b:=w4)) f5 fun i hi=>by omega⟩
  have JJ5:=JJ4.fr f5 hbxj
  refine⟨f5.mono fun i _ hi=>by omega,?_⟩
  refine rsto (B:=JJ5) (vs:=enc jj) rfl rfl rfl (Enc.one _) fun w6 JJ6 f6 _=>?_
  have JJ6:Bk w6 bJ (enc jj) E.qy:=JJ6
  have s6:Stp w1 w6:=⟨Fr.st s5.e f6 fun i hi=>by omega⟩
  have X6:=X5.fr f6 (fun h=>hbxj h.symm)
  refine⟨f6.mono fun i _ hi=>by omega,?_⟩
  clear X4 JJ4 X5 JJ5
  refine rld (B:=X6) rfl ?_
  refine rbuild (cs:=enc (zRp rr.r.id 0)) rfl ?_
  refine ral fun by' w7 n7 Y7=>?_
  have hby:=n7.lo (u:=w)
  have hby6:b6<by':=by have:=n7.b;have:=Le.size (a:=w1) (b:=w6);omega
  refine rsto (B:=Y7) (vs:=enc (zRp rr.r.id 0)) rfl rfl rfl (Enc.one _) fun w8 Y8 f8 _=>?_
  have Y8:Bk w8 by' (enc (zRp rr.r.id 0)) E.qe:=Y8
  have s8:Stp w6 w8:=⟨Fr.st (Le.e (a:=w6) (b:=w7)) f8 fun i hi=>by have:=n7.b;omega⟩
  clear Y7 f8
  have X8:=X6.mv (w:=w8)
  have JJ8:=JJ6.mv (w:=w8)
  refine drawR TBok mixed (fun _=>False) [0,1,2,3,4,5,6,7,9,10,11,12,13,14,15,16,8,17,18,19,20,21,22,23,24] (by kernel_rfl) fun w9 e9 _=>?_
  refine tldG (ds:=enc rr.r.q) (B:=X8) rfl (Enc.len _) not_false ?_
  refine tldG (ds:=enc K.xr) (B:=S.cell) rfl (Enc.len _) not_false ?_
  refine tld (B:=JJ8) rfl not_false (tld (B:=S.cell) rfl not_false ?_)
  refine rcall (zCr (SrvP.up (w':=w9) SP) hk) ?_
  rintro _ w10 ⟨O10,e10⟩
  rw [hu] at O10
  have O10:Own w9.heap.size E.qf w10 _ (sts g x0.q k0 i):=O10
  have q_:=O10.shape
  obtain⟨sa,sc,rfl⟩:=q_
  refine⟨e10.e,?_⟩
  have Fu:=S.fz.at (w':=w10)
  have hV:=(hHd2.at (w':=w10))
  have D:=zDX (W:=c.workers) (xq:=rr.r.q) (S:=sts g x0.q k0 i) (M:=mls g x0.q k0 i) hgi Fu.rows ⟨hV.1.q.kind,hV.1.q.rad⟩ O10.sl hV.2 (h3.up (w':=w10)) hW (zGN i) (fun x hx=>⟨(hmay hx).1,(hmay hx).2.1⟩) (fun x hx=>⟨(hmm hx).1,(hmm hx).2.1⟩) (by have:=hsn i;omega) (hmn i)
  rw [hlaw] at D
  refine rcall D ?_
  rintro _ w11 ⟨⟨v1,v2,rfl,O11,M11⟩,e11⟩
  dsimp only at O11 M11
  refine⟨e11.e,?_⟩
  have q_:=O11.shape
  obtain⟨sa2,sc2,rfl⟩:=q_
  have q_:=M11.shape
  obtain⟨ma2,mc2,rfl⟩:=q_
  refine ite (fun h=>absurd rfl h) (fun _=>?_)
  have z9:=Le.size (a:=w) (b:=w9)
  have z10:=e10.e.size
  have z11:=e11.e.size
  have ly:=(Y8.mv (w:=w9)).lt
  have lq:=(Y1.mv (w:=w9)).lt
  have lx:=(X8.mv (w:=w9)).lt
  have lJ:=(JJ8.mv (w:=w9)).lt
  refine rcall (zDa (S.up (w':=w11)) (Nat.le_trans hB (Le.size (a:=w) (b:=w11))) hu O11 (fun i hi=>by have:=hRlt i hi;omega)) ?_
  rintro _ w12 ⟨⟨b,Ls,RW2,rfl,S2,GR2,hov,hbut,hall⟩,fa12⟩
  have f12:Fr R w11 w12:=fa12.mono fun i _ ⟨k,hk,h⟩=>(S.rw k hk i h).1
  have m12:Fr (mutS bs K.bj c.workers RW) w w12:=(Fr.fr (Le.e (a:=w) (b:=w11))).trans (fa12.mono fun i _ h=>zBn h)
  have hnR:∀{b:Nat},w.heap.size≤b→¬R b:=fun {b} hb h=>by have:=hRlt b h;omega
  have Y12:=(Y8.mv (w:=w11)).fr f12 (hnR hby)
  have Q12:=(Y1.mv (w:=w11)).fr f12 (hnR hb6)
  have X12:=(X8.mv (w:=w11)).fr f12 (hnR hbx)
  have JJ12:=(JJ8.mv (w:=w11)).fr f12 (hnR hbJ)
  have O12:=O11.fr f12 fun b hb _=>hnR (by omega)
  have M12:=M11.fr f12 fun b hb _=>hnR (by omega)
  have z12:=f12.size
  have fR12:Fr R w w12:=(Fr.fr (Le.e (a:=w) (b:=w11))).trans f12
  have hov2:overS g c (s.held.set k0 (some (x0,i+1))) = !b:=hov
  cases b with
  |false =>
   have q_:=zHo hu hov2
   obtain⟨q1,q2⟩:=q_
   refine rsto (B:=Y12) (vs:=[.int .i64 250]) rfl rfl rfl (zAg _) fun w13 Y13 f13 _=>?_
   have Y13:Bk w13 by' (enc (zRp rr.r.id 250)) E.qe:=Y13
   have Q13:=Q12.fr f13 (by omega)
   refine rldG (ds:=enc (zRp rr.r.id 250)) (B:=Y13) rfl (Enc.len _) ?_
   refine rsto (B:=Q13) (vs:=enc (zRp rr.r.id 250)) rfl rfl rfl (Enc.one _) fun w14 Q14 f14 _=>?_
   have Q14:Bk w14 b6 (enc (zRp rr.r.id 250)) E.qe:=Q14
   refine rresG (B:=Q14) rfl ?_
   have f1214:Fr (fun i=>w.heap.size≤i∧i<w9.heap.size) w12 w14:=(f13.mono fun i _ hi=>by omega).trans (f14.mono fun i _ hi=>by omega)
   have fR14:Fr R w w14:=fR12.join f1214 (fun _ _ h=>h) fun i hi h=>by omega
   have z14:=f1214.size
   have SX2:=(S2.away f1214 (fun i hi h=>by rcases h with h|h;exact hnR hi.1 h;omega)).wide (R':=gR R w w14) (fun i hi=>hi.imp id fun h=>by omega) fun i hi=>by
    have:=(SrvX.reg SP).1
    rcases hi with hi|hi
    ·have:=this i hi;omega
    ·omega
   exact⟨⟨zRp rr.r.id 250,true,rfl,.inl ⟨rfl,_,Ls,K,wt,hd,lw,lh,lj,RW2,q1,hrv.id,rfl,rfl,rfl,(fun u _=>SlF.nil u),SX2.loose k0,hbut,q2⟩⟩,fR14⟩
  |true =>
   have hLs:=hall rfl
   subst hLs
   have hreg:=(SrvX.reg SP).1
   have hM2:∀i,mutS bs K.bj c.workers RW2 i→mutS bs K.bj c.workers RW i∨w11.heap.size≤i:=fun i h=>by
    rcases h with h|h|⟨k,hk,h⟩
    ·exact .inl (.inl h)
    ·exact .inl (.inr (.inl h))
    ·exact(GR2 k hk i h).imp (fun h1=>.inr (.inr ⟨k,hk,h1⟩)) id
   have S2:=S2.wide (R':=gR R w9 w12) (fun i hi=>hi.imp id fun h=>by omega) fun i hi=>by
    rcases hi with hi|hi
    ·have:=hreg i hi;omega
    ·omega
   have F2:=S2.fz.here
   have hkj2:k0<lj.length:=by rw [F2.ljn];exact hk
   have hlh:lh.length≤64:=by rw [F2.lhn];omega
   have hnb:∀{b:Nat},w.heap.size≤b→¬b=K.bj:=fun {b} h1 h=>by omega
   have q_:∃nj:RJob,nj=⟨⟨ma2,(mls g x0.q k0 (i+1)).length,mc2⟩,((i+1:Nat):Int)⟩:=⟨_,rfl⟩
   obtain⟨nj,hnj⟩:=q_
   refine drawR TBok mixed (fun i=>i=K.bj) [0,1,2,3,4,5,6,7,8,9,10,11] (by kernel_rfl) fun w13 e13 _=>?_
   refine tld (B:=S2.cell) rfl (fun h=>S2.ne h) ?_
   refine tld (B:=JJ12) rfl (hnb hbJ) ?_
   refine rarE (y:=((i+1:Nat):Int)) (by rw [hsteps];push_cast;rfl) (by omega) ?_
   refine tbuild (cs:=enc nj) (by rw [hnj];rfl) ?_
   have J13:=S2.jobs.up (w':=w13)
   refine tixO rfl J13 (x:=lj[k0]) (by simp) fun gj hgj _ _=>?_
   refine rstO' rfl nj J13 hgj hkj rfl fun w14 J14 f14 _=>?_
   have f14:Fr (fun i=>i=K.bj) w13 w14:=f14.mono fun i _ hi=>bjD hi
   refine⟨f14,?_⟩
   have Y14:=(Y12.mv (w:=w13)).fr f14 (hnb hby)
   have Q14:=(Q12.mv (w:=w13)).fr f14 (hnb hb6)
   have X14:=(X12.mv (w:=w13)).fr f14 (hnb hbx)
   have JJ14:=(JJ12.mv (w:=w13)).fr f14 (hnb hbJ)
   have C14:=(S2.cell.mv (w:=w13)).fr f14 S2.ne
   have f1214:Fr (fun i=>i=K.bj) w12 w14:=(Fr.fr (Le.e (a:=w12) (b:=w13))).trans f14
   have m1214:Fr (mutS bs K.bj c.workers RW2) w12 w14:=f1214.mono fun i _ h=>.inr (.inl h)
   have O14:SlF w14 (.slice sa2 (sts g x0.q k0 (i+1)).length sc2) (sts g x0.q k0 (i+1)):=by
    by_cases hl:sts g x0.q k0 (i+1)=[]
    ·rw [hl];exact SlF.nil' _ _ _
    ·have q_:=O11.lt hl
     obtain⟨gq,g1,g2,g3⟩:=q_
     exact O12.sl.fr f1214 fun b hb h=>by rw [g1] at hb;cases hb;omega
   have M14:SlF w14 (.slice ma2 (mls g x0.q k0 (i+1)).length mc2) (mls g x0.q k0 (i+1)):=by
    by_cases hl:mls g x0.q k0 (i+1)=[]
    ·rw [hl];exact SlF.nil' _ _ _
    ·have q_:=M11.lt hl
     obtain⟨gq,g1,g2,g3⟩:=q_
     exact M12.sl.fr f1214 fun b hb h=>by rw [g1] at hb;cases hb;omega
   have T14:=S2.st.away f1214 fun k hk i hi h=>(S2.rw k hk i hi).2.2 h
   have F14:=S2.fz w14 (m1214.mono fun i _ h=>.inl h)
   have hV14:RqV w14 rr.r x0:=(hHd2 w14 ((m12.trans (f1214.mono fun i _ h=>.inr (.inl h))).mono fun i _ h=>.inl h)).1
   have z14:=f1214.size
   have hwn2:=F2.words.len
   have hBw:B≤w12.heap.size:=by omega
   have wide:∀{u:World},w14.heap.size≤u.heap.size→(∀i,gR (gR R w9 w12) w12 w14 i→gR R w u i)∧∀i,gR R w u i→B≤i∧i<u.heap.size:=fun {u} hz=>by
    refine⟨fun i hi=>?_,fun i hi=>?_⟩
    ·rcases hi with (hi|hi)|hi
     ·exact .inl hi
     ·exact .inr (by omega)
     ·exact .inr (by omega)
    ·rcases hi with hi|hi
     ·have:=hreg i hi;omega
     ·omega
   have apart:∀i,(w.heap.size≤i∧i<w9.heap.size)∨w14.heap.size≤i→¬gR (gR R w9 w12) w12 w14 i:=fun i h hi=>by
    rcases hi with (hi|hi)|hi
    ·have:=hRlt i hi;omega
    ·omega
    ·omega
   have fR14:Fr R w w14:=fR12.trans (f1214.mono fun i _ h=>h ▸ S.rj)
   have mF:∀{u:World},Fr (fun i=>(w.heap.size≤i∧i<w9.heap.size)∨w14.heap.size≤i) w14 u→Fr R w u:=fun {u} f=>fR14.join f (fun _ _ h=>h) fun i hi h=>by omega
   have mZ:∀{u:World},Fr (fun i=>(w.heap.size≤i∧i<w9.heap.size)∨w14.heap.size≤i) w14 u→SrvR k0 (gR R w u) B u bs g c s (wkS g c.workers (aftS s.held k0 x0 i)) K wt hd lw lh (lj.set k0 nj) RW2:=fun {u} f =>
    ((S2.fin (w1:=w12) (w':=w14) (kx':=k0) (s':=s) (Ls':=wkS g c.workers (aftS s.held k0 x0 i)) (Nat.le_refl _) m1214 hBw C14 J14 T14 (.refl _) S2.so
     ((S2.fz1 (w':=w12)).imp fun u Fa=>⟨Fa.rows,Fa.pos,Fa.words,Fa.wk,Fa.fw,Fa.fh,Fa.lwn,Fa.waits,Fa.lhn,by simp [Fa.ljn],zE4 hlh Fa.helds⟩)).away f apart).wide (wide f.size).1 (wide f.size).2
   have Zm:Fz (mutS bs K.bj c.workers RW2) (gR (gR R w9 w12) w12 w12) w12 fun u=>SlF u (.slice ma2 (mls g x0.q k0 (i+1)).length mc2) (mls g x0.q k0 (i+1)):=
    M11.fzB M12.sl fun i h1 h2=>⟨.inl (.inr (by omega)),fun h=>by
     have q_:=hM2 i h
     rcases q_ with h4|h4
     ·have:=hRlt i (S.mut h4);omega
     ·omega⟩
   have mP:∀{u:World},Fr (fun i=>(w.heap.size≤i∧i<w9.heap.size)∨w14.heap.size≤i) w14 u→SvOk g c ⟨s.wait,aftS s.held k0 x0 i⟩→SrvP (gR R w u) B u bs g c ⟨s.wait,aftS s.held k0 x0 i⟩:=fun {u} f hok =>
    ⟨K,wt,hd,lw,lh,lj.set k0 nj,RW2,((S2.fin (w1:=w12) (w':=w14) (kx':=1000) (s':=⟨s.wait,aftS s.held k0 x0 i⟩) (Ls':=wkS g c.workers (aftS s.held k0 x0 i)) (Nat.le_refl _) m1214 hBw C14 J14 T14 (.refl _) hok
     (((S2.fz1 (w':=w12)).and Zm).imp fun u ⟨Fa,Sm⟩=>⟨Fa.rows,Fa.pos,Fa.words,Fa.wk,Fa.fw,Fa.fh,Fa.lwn,Fa.waits,by simp [Fa.lhn],by simp [Fa.ljn],zG4 hk hu Fa.helds ⟨by rw [hnj];exact Sm,by rw [hnj]⟩⟩)).away f apart).wide (wide f.size).1 (wide f.size).2⟩
   clear wide Zm
   have hok:=(zJN k0 S.so).1
   have q_:∃an,an=(doneL g x0.q (sts g x0.q k0 (i+1)) (mls g x0.q k0 (i+1))).1:=⟨_,rfl⟩
   obtain⟨an,han⟩:=q_
   have q_:∃dn,dn=(doneL g x0.q (sts g x0.q k0 (i+1)) (mls g x0.q k0 (i+1))).2:=⟨_,rfl⟩
   obtain⟨dn,hdn⟩:=q_
   have DD:∀{u:World},Le w14 u→Sp PP F.yd #[agg rr.r.q,.slice K.ws.a K.ws.n K.ws.c,.slice sa2 (sts g x0.q k0 (i+1)).length sc2,.slice ma2 (mls g x0.q k0 (i+1)).length mc2] u fun v w'=>(∃v1,v=.tuple #[v1,.bool dn]∧AnsO u.heap.size w' v1 an)∧Stp u w':=fun {u} L=>by
    have D:=zEt (hV14.q.up (w':=u)) hrq.q.ok hgi (F14.words.up (w':=u)) (F14.pos.up (w':=u)) (by omega) (O14.up (w':=u)) (by have:=hsn (i+1);omega) (fun x hx=>by have:=hmay hx;omega) (M14.up (w':=u)) (by have:=hmn (i+1);omega)
    rw [←han,←hdn] at D
    exact D
   have lbs:bs<w14.heap.size:=by omega
   have lbx:bx<w14.heap.size:=by omega
   have lbJ:bJ<w14.heap.size:=by omega
   refine drawRT TBok mixed (fun i=>w14.heap.size≤i) (.one 0 (.one 1 (.one 2 (.one 3 (.one 4 (.one 5 (.one 6 (.one 7 (.two 8 (.one 9 (.one 10 (.one 11 (.one 12 (.one 13 (.one 14 .nil)))))) 12 (.one 8 (.one 9 (.one 10 (.one 11 (.one 13 (.one 14 .nil))))))))))))))) (by kernel_rfl) fun w15 e15 _=>?_
   refine tldG (ds:=enc rr.r.q) (B:=X14) rfl (Enc.len _) (by omega) ?_
   refine tld (B:=C14) rfl (by omega) ?_
   refine⟨?_,?_⟩
   ·refine rcall (DD (u:=w15) inferInstance) ?_
    rintro _ w16 ⟨⟨v1,rfl,ax,rfl,ha1,ha2,OA⟩,e16⟩
    refine⟨Fr.fr e16.e,?_⟩
    refine ral fun ba w17 n17 A17=>⟨Fr.fr n17.e,?_⟩
    have hba:=n17.lo (u:=w14)
    refine rsto (B:=A17) (vs:=enc ax) rfl rfl rfl (Enc.one _) fun w18 A18 f18 _=>?_
    have A18:Bk w18 ba (enc ax) E.qi:=A18
    refine⟨f18.mono fun i _ h=>by omega,?_⟩
    have s18:Stp w14 w18:=⟨Fr.st (Le.e (a:=w14) (b:=w17)) f18 fun i h=>by omega⟩
    have hn17:=n17.b
    have OA18:=((OA.up (w':=w17)).frc f18 A17 (by decide)).mono (B':=w14.heap.size) (Le.size (a:=w14) (b:=w15))
    have Y18:=Y14.mv (w:=w18)
    have Q18:=Q14.mv (w:=w18)
    have z18:=Le.size (a:=w14) (b:=w18)
    have fl18:Fr (fun i=>(w.heap.size≤i∧i<w9.heap.size)∨w14.heap.size≤i) w14 w18:=Fr.fr (Le.e (a:=w14) (b:=w18))
    cases dn with
    |true =>
     have q_:=zBU hu hov2 hdn.symm
     obtain⟨q1,q2⟩:=q_
     rw [←han] at q1
     refine rldG (ds:=enc ax) (B:=A18) rfl (Enc.len _) ?_
     refine rsto (B:=Y18) (vs:=enc ax) rfl rfl rfl (Enc.one _) fun w19 Y19 f19 _=>?_
     have Y19:Bk w19 by' (enc (⟨rr.r.id,0,ax⟩:RepD)) E.qe:=Y19
     have Q19:=Q18.fr f19 (by omega)
     refine rldG (ds:=enc (⟨rr.r.id,0,ax⟩:RepD)) (B:=Y19) rfl (Enc.len _) ?_
     refine rsto (B:=Q19) (vs:=enc (⟨rr.r.id,0,ax⟩:RepD)) rfl rfl rfl (Enc.one _) fun w20 Q20 f20 _=>?_
     have Q20:Bk w20 b6 (enc (⟨rr.r.id,0,ax⟩:RepD)) E.qe:=Q20
     refine rresG (B:=Q20) rfl ?_
     have fl:=(fl18.trans (f19.mono fun i _ h=>.inl (by omega))).trans (f20.mono fun i _ h=>.inl (by omega))
     have OA20:=((OA18.fr f19 fun b hb _ h=>by omega).fr f20 fun b hb _ h=>by omega)
     have SZ:=mZ fl
     exact⟨⟨⟨rr.r.id,0,ax⟩,true,rfl,.inl ⟨rfl,_,_,K,wt,hd,lw,lh,_,RW2,q1,hrv.id,rfl,ha1,ha2,OA20.fz (fun i h1 h2=>⟨.inr ⟨by omega,h2⟩,fun h=>by have:=(S2.reg i (S2.mut h)).2;omega⟩),SZ,zA1 hk,q2⟩⟩,mF fl⟩
    |false =>
     refine drawR TBok mixed (fun _=>False) (upF 10 0) (by kernel_rfl) fun w19 e19 _=>?_
     refine tld (B:=JJ14) rfl not_false ?_
     refine rarE (y:=((i+1:Nat):Int)) (by rw [hsteps];push_cast;rfl) (by omega) ?_
     refine tld (B:=C14) rfl not_false ?_
     have Y19:=Y18.mv (w:=w19)
     have Q19:=Q18.mv (w:=w19)
     have fl19:=fl18.trans (Fr.fr (Le.e (a:=w18) (b:=w19)))
     refine ite (fun hbd=>?_) (fun hbd=>?_)
     ·have q_:=zDG hu hov2 hdn.symm (by omega)
      obtain⟨q1,q2⟩:=q_
      refine rsto (B:=Y19) (vs:=[.int .i64 251]) rfl rfl rfl (zAg _) fun w20 Y20 f20 _=>?_
      have Y20:Bk w20 by' (enc (zRp rr.r.id 251)) E.qe:=Y20
      have Q20:=Q19.fr f20 (by omega)
      refine rldG (ds:=enc (zRp rr.r.id 251)) (B:=Y20) rfl (Enc.len _) ?_
      refine rsto (B:=Q20) (vs:=enc (zRp rr.r.id 251)) rfl rfl rfl (Enc.one _) fun w21 Q21 f21 _=>?_
      have Q21:Bk w21 b6 (enc (zRp rr.r.id 251)) E.qe:=Q21
      refine rresG (B:=Q21) rfl ?_
      have fl:=(fl19.trans (f20.mono fun i _ h=>.inl (by omega))).trans (f21.mono fun i _ h=>.inl (by omega))
      exact⟨⟨zRp rr.r.id 251,true,rfl,.inl ⟨rfl,_,_,K,wt,hd,lw,lh,_,RW2,q1,hrv.id,rfl,rfl,rfl,(fun u _=>SlF.nil u),mZ fl,zA1 hk,q2⟩⟩,mF fl⟩
     ·have q_:=zDb hu hov2 hdn.symm (by omega)
      obtain⟨q1,q2⟩:=q_
      refine rldG (ds:=enc (zRp rr.r.id 0)) (B:=Y19) rfl (Enc.len _) ?_
      refine rsto (B:=Q19) (vs:=enc (zRp rr.r.id 0)) rfl rfl rfl (Enc.one _) fun w20 Q20 f20 _=>?_
      have Q20:Bk w20 b6 (enc (zRp rr.r.id 0)) E.qe:=Q20
      refine rresG (B:=Q20) rfl ?_
      have fl:=fl19.trans (f20.mono fun i _ h=>.inl (by omega))
      rw [q2] at hok
      have q3:=mP fl hok
      rw [show aftS s.held k0 x0 i=(stepS g c s.held k0).1 from q2.symm] at q3
      exact⟨⟨zRp rr.r.id 0,false,rfl,.inr ⟨rfl,q1,q3⟩⟩,mF fl⟩
   ·refine ral fun ba w16 n16 A16=>⟨Fr.fr n16.e,?_⟩
    have hba:=n16.lo (u:=w14)
    refine rcall (DD (u:=w16) inferInstance) ?_
    rintro _ w17 ⟨⟨v1,rfl,ax,rfl,ha1,ha2,OA⟩,e17⟩
    refine⟨Fr.fr e17.e,?_⟩
    refine rsto (B:=A16) (vs:=enc ax) rfl rfl rfl (Enc.one _) fun w18 A18 f18 _=>?_
    have A18:Bk w18 ba (enc ax) E.qi:=A18
    refine⟨f18.mono fun i _ h=>by omega,?_⟩
    have s18:Stp w14 w18:=⟨Fr.st (Le.e (a:=w14) (b:=w17)) f18 fun i h=>by omega⟩
    have hn16:=n16.lt
    have OA18:=(OA.fr f18 fun b hb _ h=>by omega).mono (B':=w14.heap.size) (Le.size (a:=w14) (b:=w16))
    have Y18:=Y14.mv (w:=w18)
    have Q18:=Q14.mv (w:=w18)
    have z18:=Le.size (a:=w14) (b:=w18)
    have fl18:Fr (fun i=>(w.heap.size≤i∧i<w9.heap.size)∨w14.heap.size≤i) w14 w18:=Fr.fr (Le.e (a:=w14) (b:=w18))
    cases dn with
    |true =>
     have q_:=zBU hu hov2 hdn.symm
     obtain⟨q1,q2⟩:=q_
     rw [←han] at q1
     refine rldG (ds:=enc ax) (B:=A18) rfl (Enc.len _) ?_
     refine rsto (B:=Y18) (vs:=enc ax) rfl rfl rfl (Enc.one _) fun w19 Y19 f19 _=>?_
     have Y19:Bk w19 by' (enc (⟨rr.r.id,0,ax⟩:RepD)) E.qe:=Y19
     have Q19:=Q18.fr f19 (by omega)
     refine rldG (ds:=enc (⟨rr.r.id,0,ax⟩:RepD)) (B:=Y19) rfl (Enc.len _) ?_
     refine rsto (B:=Q19) (vs:=enc (⟨rr.r.id,0,ax⟩:RepD)) rfl rfl rfl (Enc.one _) fun w20 Q20 f20 _=>?_
     have Q20:Bk w20 b6 (enc (⟨rr.r.id,0,ax⟩:RepD)) E.qe:=Q20
     refine rresG (B:=Q20) rfl ?_
     have fl:=(fl18.trans (f19.mono fun i _ h=>.inl (by omega))).trans (f20.mono fun i _ h=>.inl (by omega))
     have OA20:=((OA18.fr f19 fun b hb _ h=>by omega).fr f20 fun b hb _ h=>by omega)
     have SZ:=mZ fl
     exact⟨⟨⟨rr.r.id,0,ax⟩,true,rfl,.inl ⟨rfl,_,_,K,wt,hd,lw,lh,_,RW2,q1,hrv.id,rfl,ha1,ha2,OA20.fz (fun i h1 h2=>⟨.inr ⟨by omega,h2⟩,fun h=>by have:=(S2.reg i (S2.mut h)).2;omega⟩),SZ,zA1 hk,q2⟩⟩,mF fl⟩
    |false =>
     refine drawR TBok mixed (fun _=>False) (upF 10 0) (by kernel_rfl) fun w19 e19 _=>?_
     refine tld (B:=JJ14) rfl not_false ?_
     refine rarE (y:=((i+1:Nat):Int)) (by rw [hsteps];push_cast;rfl) (by omega) ?_
     refine tld (B:=C14) rfl not_false ?_
     have Y19:=Y18.mv (w:=w19)
     have Q19:=Q18.mv (w:=w19)
     have fl19:=fl18.trans (Fr.fr (Le.e (a:=w18) (b:=w19)))
     refine ite (fun hbd=>?_) (fun hbd=>?_)
     ·have q_:=zDG hu hov2 hdn.symm (by omega)
      obtain⟨q1,q2⟩:=q_
      refine rsto (B:=Y19) (vs:=[.int .i64 251]) rfl rfl rfl (zAg _) fun w20 Y20 f20 _=>?_
      have Y20:Bk w20 by' (enc (zRp rr.r.id 251)) E.qe:=Y20
      have Q20:=Q19.fr f20 (by omega)
      refine rldG (ds:=enc (zRp rr.r.id 251)) (B:=Y20) rfl (Enc.len _) ?_
      refine rsto (B:=Q20) (vs:=enc (zRp rr.r.id 251)) rfl rfl rfl (Enc.one _) fun w21 Q21 f21 _=>?_
      have Q21:Bk w21 b6 (enc (zRp rr.r.id 251)) E.qe:=Q21
      refine rresG (B:=Q21) rfl ?_
      have fl:=(fl19.trans (f20.mono fun i _ h=>.inl (by omega))).trans (f21.mono fun i _ h=>.inl (by omega))
      exact⟨⟨zRp rr.r.id 251,true,rfl,.inl ⟨rfl,_,_,K,wt,hd,lw,lh,_,RW2,q1,hrv.id,rfl,rfl,rfl,(fun u _=>SlF.nil u),mZ fl,zA1 hk,q2⟩⟩,mF fl⟩
     ·have q_:=zDb hu hov2 hdn.symm (by omega)
      obtain⟨q1,q2⟩:=q_
      refine rldG (ds:=enc (zRp rr.r.id 0)) (B:=Y19) rfl (Enc.len _) ?_
      refine rsto (B:=Q19) (vs:=enc (zRp rr.r.id 0)) rfl rfl rfl (Enc.one _) fun w20 Q20 f20 _=>?_
      have Q20:Bk w20 b6 (enc (zRp rr.r.id 0)) E.qe:=Q20
      refine rresG (B:=Q20) rfl ?_
      have fl:=fl19.trans (f20.mono fun i _ h=>.inl (by omega))
      rw [q2] at hok
      have q3:=mP fl hok
      rw [show aftS s.held k0 x0 i=(stepS g c s.held k0).1 from q2.symm] at q3
      exact⟨⟨zRp rr.r.id 0,false,rfl,.inr ⟨rfl,q1,q3⟩⟩,mF fl⟩
end
section
variable {kx:Nat} {R:Nat→Prop} {B:Nat} {w0 w w':World} {bs:Nat} {g:GrD} {c:CfD} {s:SvD} {Ls:Nat→List StD} {K:SrvK} {wt hd:SV} {lw:List RReq} {lh:List RHeld} {lj:List RJob} {RW:Nat→Nat→Prop}
theorem zFf(k:Nat):∀(ks:List Nat) (h:Hs),stepsS g c (ks++[k]) h=((stepS g c (stepsS g c ks h).1 k).1,(stepsS g c ks h).2++(stepS g c (stepsS g c ks h).1 k).2.toList)
 |[],h=>by simp [stepsS]
 |a::r,h=>by
  have:=zFf k r (stepS g c h a).1
  show ((stepsS g c (r++[k]) (stepS g c h a).1).1,(stepS g c h a).2.toList++(stepsS g c (r++[k]) (stepS g c h a).1).2)=_
  rw [this]
  refine Prod.ext rfl ?_
  show _++(_++_)=(_++_)++_
  rw [List.append_assoc];rfl
theorem zDH:∀(ks:List Nat) (h:Hs),(stepsS g c ks h).2.length≤ks.length
 |[],h=>Nat.le_refl _
 |a::r,h=>by
  have:=zDH r (stepS g c h a).1
  show ((stepS g c h a).2.toList++(stepsS g c r (stepS g c h a).1).2).length≤r.length+1
  rw [List.length_append]
  cases (stepS g c h a).2 <;> simp <;> omega
theorem zFg:∀(ks:List Nat) (h:Hs),j∉ks→(stepsS g c ks h).1.getD j none=h.getD j none
 |[],h,_=>rfl
 |a::r,h,hn=>by
  rw [List.mem_cons,not_or] at hn
  show (stepsS g c r (stepS g c h a).1).1.getD j none=_
  rw [zFg r _ hn.2,zKo hn.1]
theorem zLK{y:RepD}{p:Int×Int×AnP}(h1:y.id=p.1)(h2:y.code=p.2.1)(h3:y.a.found=p.2.2.found)(h4:y.a.num=p.2.2.num):(RepOk y p.2.2.hits↔RepOk (repOf p.1 p.2.1 p.2.2) p.2.2.hits)∧encR y p.2.2.hits=encR (repOf p.1 p.2.1 p.2.2) p.2.2.hits:=by
 obtain⟨id,code,found,num,s⟩:=y
 obtain⟨pid,pc,pa⟩:=p
 dsimp only at h1 h2 h3 h4
 subst h1 h2 h3 h4
 exact⟨Iff.rfl,rfl⟩
set_option maxHeartbeats 2000000 in
theorem zAQ{c3:Nat}(S:SrvP R B w bs g c s)(hB:B≤w.heap.size)(h3:∀u,Fr R w u→SlF u (.slice a3 n3 c3) ps):
  Sp PP F.zh #[.pointer (some ⟨bs,0,none⟩),.slice a3 n3 c3] w fun v w'=>∃R':Nat→Prop,Own w.heap.size E.qg w' v ((tickS g c s).2.map bsOf)∧(∀b,Value.blk v=some b→b<w'.heap.size∧¬R' b)∧SrvP R' B w' bs g c (tickS g c s).1∧(∀i,R' i→gR R w w' i)∧Fr R w w':=by
 have hR:=(SrvX.reg S).1
 refine en TBok rfl ?_
 refine rpnil ?_
 refine rcall (zGk S hB) ?_
 rintro _ w1 ⟨S1,f1⟩
 have z1:=f1.size
 have q_:∃s1:SvD,s1=⟨(admitS s.wait s.held).1,(admitS s.wait s.held).2⟩:=⟨_,rfl⟩
 obtain⟨s1,hs1⟩:=q_
 rw [←hs1] at S1
 have hR1:=(SrvX.reg S1).1
 have S1':=S1
 obtain⟨K,wt,hd,lw,lh,lj,RW,S2⟩:=S1'
 have hsm:=S2.small
 have F2:=S2.fz.here
 have hu:=F2.usedH
 have hhn:=F2.fh.len
 have hul:(usedS s1.held).length≤lh.length:=by rw [F2.lhn];exact zEO _ _
 refine rld (B:=S2.cell) rfl ?_
 have D:=zD1 F2.fh (by omega)
 rw [hu] at D
 refine rcall D ?_
 rintro v w2 ⟨O2,e2⟩
 have q_:=O2.shape
 obtain⟨ua,uc,rfl⟩:=q_
 have z2:=e2.e.size
 have hlen:((usedS s1.held).map fun k:Nat=>(k:Int)).length=(usedS s1.held).length:=by simp
 have P0:SrvP (gR R w w1) B w2 bs g c ⟨s1.wait,(stepsS g c ((usedS s1.held).take 0) s1.held).1⟩:=SrvP.up (w':=w2) S1
 refine cnt1 TBok 22 [7,8,9,10,11] 5 22 (usedS s1.held).length (fun j v u=>∃Rj:Nat→Prop,Own w2.heap.size E.qg u v ((stepsS g c ((usedS s1.held).take j) s1.held).2.map bsOf)∧(∀b,Value.blk v=some b→b<u.heap.size∧¬Rj b) ∧
   SrvP Rj B u bs g c ⟨s1.wait,(stepsS g c ((usedS s1.held).take j) s1.held).1⟩∧(∀i,Rj i→gR R w w1 i∨w2.heap.size≤i)∧Fr (fun i=>Rj i∧i<w2.heap.size) w2 u) rfl rfl
  ⟨gR R w w1,Own.nil _ _ _,(fun b hb=>by cases hb),P0,(fun i hi=>.inl hi),Fr.refl _ _⟩ ?_
 clear P0
 rintro j v G u hj ⟨Rj,O,hoff,P,hRj,f⟩
 have zu:=f.size
 have ff:Fr (fun i=>gR R w w1 i∧i<w2.heap.size) w2 u:=f.mono fun i hi h=>⟨(hRj i h.1).elim id fun h2=>by omega,h.2⟩
 have fR:Fr R w u:=(f1.join (H:=fun i=>R i) ((Fr.fr (D:=fun i=>gR R w w1 i∧i<w2.heap.size) e2.e).trans ff) (fun _ _ h=>h) fun i hi h=>h.1.elim id fun h=>by omega)
 have Ou:=O2.fr ff fun b hb hb2 h=>by rcases h.1 with h4|h4;(have:=hR b h4;omega);omega
 refine ite (fun hlt=>?_) (fun hge=>?_)
 ·have hja:j<(usedS s1.held).length:=by (try dsimp only at hlt);omega
  have q_:∃k,k=(usedS s1.held)[j]:=⟨_,rfl⟩
  obtain⟨k,hk⟩:=q_
  have hkm:k∈usedS s1.held:=by rw [hk];exact List.getElem_mem hja
  have q_:=zK6 hkm
  obtain⟨x0,i,hx0⟩:=q_
  have hkn:k∉(usedS s1.held).take j:=fun h=>by
   have q_:=List.mem_iff_getElem.1 h
   obtain⟨m,hm,he⟩:=q_
   rw [List.length_take] at hm
   rw [List.getElem_take,hk] at he
   have:=(List.getElem_inj (zM2 s1.held)).1 he
   omega
  have hx:(stepsS g c ((usedS s1.held).take j) s1.held).1.getD k none=some (x0,i):=by rw [zFg _ _ hkn];exact hx0
  have hsnoc:=zFf (g:=g) (c:=c) k ((usedS s1.held).take j) s1.held
  rw [show (usedS s1.held).take j++[k]=(usedS s1.held).take (j+1) by rw [hk,←List.take_succ_eq_append_getElem hja]] at hsnoc
  have q_:∃hj1,hj1=(stepsS g c ((usedS s1.held).take j) s1.held).1:=⟨_,rfl⟩
  obtain⟨hj1,hhj⟩:=q_
  have q_:∃lo,lo=(stepsS g c ((usedS s1.held).take j) s1.held).2:=⟨_,rfl⟩
  obtain⟨lo,hlo⟩:=q_
  rw [←hhj] at hx P hsnoc
  rw [←hlo] at O hsnoc
  have hBu:B≤u.heap.size:=by omega
  have hRu:=(SrvX.reg P).1
  refine rix Ou.sl (x:=(k:Int)) (by simp [hja,hk]) fun b1 o1 A1=>rload1 (A1.cell0 rfl) ?_
  refine rcall (zGJ P hBu hx (h3 u fR)) ?_
  rintro _ u1 ⟨⟨y,all,rfl,hcase⟩,fs⟩
  have zs:=fs.size
  refine ral fun by' u2 n2 Y2=>?_
  have hby:=n2.lo (u:=u1)
  have hbyl:=n2.lt
  refine rsto (B:=Y2) (vs:=enc y) rfl rfl rfl (Enc.one _) fun u3 Y3 f3 _=>?_
  have Y3:Bk u3 by' (enc y) E.qe:=Y3
  have s3:Stp u1 u3:=⟨Fr.st Le.e f3 fun i hi=>by subst hi;exact hby⟩
  clear Y2 f3
  have z3:=Le.size (a:=u1) (b:=u3)
  have grow:∀{b:Nat},b<u.heap.size→¬Rj b→∀{x y:World},u.heap.size≤x.heap.size→¬gR Rj x y b:=fun {b} hb hn {x y} hx h=>h.elim hn fun h=>by omega
  have hlol:lo.length≤64:=by
   have:=zDH (g:=g) (c:=c) ((usedS s1.held).take j) s1.held
   rw [←hlo,List.length_take] at this;omega
  have Os:Own w2.heap.size E.qg u1 v (lo.map bsOf):=O.fr fs fun b _ hb=>(hoff b hb).2
  have hf1:Fr (fun i=>gR Rj u u1 i∧i<w2.heap.size) w2 u1:=f.join fs (fun i _ h=>⟨.inl h.1,h.2⟩) fun i hi h=>⟨.inl h,hi⟩
  have hR1j:∀{y x:World},w2.heap.size≤x.heap.size→∀i,gR Rj x y i→gR R w w1 i∨w2.heap.size≤i:=fun {y x} hx i hi=>hi.elim (hRj i) fun h=>.inr (by omega)
  rcases hcase with ⟨rfl,p,Ls,K,wt,hd,lw,lh,lj,RW,q1,hy1,hy2,hy3,hy4,HZ,SZ,hbut,q2⟩|⟨rfl,q1,P1⟩
  ·have SZ3:=SZ.up (w':=u3)
   refine rcall (zCN SZ3 hbut hx (by omega)) ?_
   rintro _ u4 ⟨P4,m4⟩
   have f4:Fr (gR Rj u u1) u3 u4:=m4.mono fun i _ h=>SZ3.mut h
   have z4:=f4.size
   have Y4:=Y3.fr f4 fun h=>h.elim (fun h=>by have:=(hRu _ h).2;omega) fun h=>by omega
   have H4:SlF u4 (.slice y.a.s.a y.a.s.n y.a.s.c) p.2.2.hits:=HZ u4 (((Fr.fr (Le.e (a:=u1) (b:=u3))).trans m4).mono fun i _ h=>.inl h)
   refine rldG (ds:=enc y) (B:=Y4) rfl (Enc.len _) ?_
   have hrep:=((zLZ (SrvX.reg P).2.2.1 (SrvX.reg P).2.2.2 q1).ok (SrvX.reg P).2.1.ok).1
   refine rcall (zB2 (x:=y) H4 (by have:=hrep.2.2.2.1;omega)) ?_
   rintro v5 u5 ⟨hput,e5⟩
   have hput:∃e,v5=Value.tuple #[txt (bytR p),e]:=by
    have q_:=zLK hy1 hy2 hy3 hy4
    obtain⟨r1,r2⟩:=q_
    rcases hput with ⟨h1,h2⟩|⟨h1,h2⟩
    ·refine⟨.int .i64 0,?_⟩;rw [h2,r2,bytR,zJI (r1.1 h1)]
    ·refine⟨.int .i64 1,?_⟩;rw [h2,bytR,zJH (fun h=>h1 (r1.2 h))]
   obtain⟨ee,rfl⟩:=hput
   refine rbs1 (bsOf (bytR p)) rfl rfl (by decide) fun b6 u6 n6 _ S6=>?_
   have O4:Own w2.heap.size E.qg u4 v (lo.map bsOf):=(Os.up (w':=u3)).fr f4 fun b _ hb=>grow (hoff b hb).1 (hoff b hb).2 (Nat.le_refl _)
   have z6:=Le.size (a:=u4) (b:=u6)
   refine rappD ⟨rfl,rfl⟩ (O4.up (w':=u6)) S6 (by simp) (by omega) (by rw [List.length_map];simp;omega) fun v7 u7 O7 f7 hv7=>?_
   have z7:=f7.size
   have P7:=P4.up (w':=u6)
   have nv:∀b,ownD w2.heap.size v b→b<u.heap.size∧¬Rj b:=fun b hb=>hoff b hb.2.1
   have hD7:∀b,ownD w2.heap.size v b→¬gR (gR Rj u u1) u3 u4 b:=fun b hb h=>by
    have:=nv b hb
    rcases h with (h|h)|h
    ·exact this.2 h
    ·omega
    ·omega
   have P8:=SrvP.away P7 f7 hD7
   have k1:Own w2.heap.size E.qg u7 v7 ((stepsS g c ((usedS s1.held).take (j+1)) s1.held).2.map bsOf):=by
    have:(stepsS g c ((usedS s1.held).take (j+1)) s1.held).2.map bsOf=lo.map bsOf++[bsOf (bytR p)]:=by
     rw [hsnoc]
     show (lo++(stepS g c hj1 k).2.toList).map bsOf=_
     rw [(zDF hj1 k).1,q1,List.map_append];rfl
    rw [this];exact O7
   have k2:∀b,Value.blk v7=some b→b<u7.heap.size∧¬gR (gR Rj u u1) u3 u4 b:=fun b hb=>by
    rcases hv7 with h|h
    ·rw [h] at hb
     have:=hoff b hb
     refine⟨by omega,fun h2=>?_⟩
     rcases h2 with (h2|h2)|h2
     ·exact this.2 h2
     ·omega
     ·omega
    ·rw [h] at hb;cases hb
     have q_:=O7.lt (by simp)
     obtain⟨gq,g1,_,g3⟩:=q_
     rw [h] at g1;cases g1
     refine⟨g3,fun h=>?_⟩
     rcases h with (h|h)|h
     ·have:=(hRu _ h).2;omega
     ·omega
     ·omega
   have k3:SrvP (gR (gR Rj u u1) u3 u4) B u7 bs g c ⟨s1.wait,(stepsS g c ((usedS s1.held).take (j+1)) s1.held).1⟩:=by
    rw [hsnoc]
    show SrvP _ _ _ _ _ _ ⟨s1.wait,(stepS g c hj1 k).1⟩
    rw [q2];exact P8
   have k4:∀i,gR (gR Rj u u1) u3 u4 i→gR R w w1 i∨w2.heap.size≤i:=fun i hi=>by
    rcases hi with (h|h)|h
    ·exact hRj i h
    ·exact .inr (by omega)
    ·exact .inr (by omega)
   have k5:Fr (fun i=>gR (gR Rj u u1) u3 u4 i∧i<w2.heap.size) w2 u7:=by
    refine((hf1.trans (Fr.fr (Le.e (a:=u1) (b:=u3)))).join (H:=fun i=>gR (gR Rj u u1) u3 u4 i∧i<w2.heap.size) f4 (fun i _ h=>⟨.inl h.1,h.2⟩) fun i hi h=>⟨.inl h,hi⟩).join ((Fr.fr (D:=ownD w2.heap.size v) (Le.e (a:=u4) (b:=u6))).trans f7) (fun _ _ h=>h) fun i hi h=>?_
    have:=h.1;omega
   clear Y4 H4 O4 S6 P7 P8 nv hD7 O7 f7 hv7
   exact rar (by omega) ⟨rfl,hja,_,k1,k2,k3,k4,k5⟩
  ·have P3:=SrvP.up (w':=u3) P1
   have k1:Own w2.heap.size E.qg u3 v ((stepsS g c ((usedS s1.held).take (j+1)) s1.held).2.map bsOf):=by
    have:(stepsS g c ((usedS s1.held).take (j+1)) s1.held).2.map bsOf=lo.map bsOf:=by
     rw [hsnoc]
     show (lo++(stepS g c hj1 k).2.toList).map bsOf=_
     rw [(zDF hj1 k).1,q1];simp
    rw [this];exact Os.up
   have k2:∀b,Value.blk v=some b→b<u3.heap.size∧¬gR Rj u u1 b:=fun b hb=>by
    have:=hoff b hb
    exact⟨by omega,grow this.1 this.2 (Nat.le_refl _)⟩
   have k3:SrvP (gR Rj u u1) B u3 bs g c ⟨s1.wait,(stepsS g c ((usedS s1.held).take (j+1)) s1.held).1⟩:=by rw [hsnoc];exact P3
   have k5:Fr (fun i=>gR Rj u u1 i∧i<w2.heap.size) w2 u3:=hf1.trans (Fr.fr (Le.e (a:=u1) (b:=u3)))
   exact rar (by omega) ⟨rfl,hja,gR Rj u u1,k1,k2,k3,hR1j (by omega),k5⟩
 ·obtain rfl:j=(usedS s1.held).length:=by (try dsimp only at hge);omega
  rw [List.take_length] at O P
  have h1:tickS g c s=(⟨s1.wait,(stepsS g c (usedS s1.held) s1.held).1⟩,(stepsS g c (usedS s1.held) s1.held).2):=by rw [hs1];rfl
  rw [h1]
  refine⟨Rj,O.mono (by omega),hoff,P,fun i hi=>?_,fR⟩
  have:=(SrvX.reg P).1 i hi
  have q_:=hRj i hi
  rcases q_ with (h|h)|h
  ·exact .inl h
  ·exact .inr (by omega)
  ·exact .inr (by omega)
end
section
variable {R:Nat→Prop} {B:Nat} {w0 w w':World} {bs:Nat} {g:GrD} {c:CfD} {s:SvD}
def comeV (o:Option (List UInt8)):Value:=.tuple #[txt (o.getD []),.bool o.isSome]
theorem zMf(s:SvD)(id:Int):(backS s id).2≠0:=by
 unfold backS
 split
 ·exact(by decide:(253:Int)≠0)
 ·split
  ·exact(by decide:(253:Int)≠0)
  ·exact(by decide:(141:Int)≠0)
theorem zIh(f:Fn)(a b:Array Value):∀u∈[Value.func f a b],u.oneCell'=true:=by intro u hu;simp at hu;subst hu;rfl
set_option maxHeartbeats 2000000 in
theorem zBd{f:List UInt8}(S:SrvP R B w bs g c s)(hB:B≤w.heap.size)(hf:f.length≤4611686018427387904):
  Sp PP F.zi #[.pointer (some ⟨bs,0,none⟩),txt f] w fun v w'=>v=comeV (comeS g c s f).2∧SrvP (gR R w w') B w' bs g c (comeS g c s f).1∧Fr R w w':=by
 have hlo:=S.lo
 have q_:∃s' o,comeS g c s f=(s',o):=⟨_,_,rfl⟩
 obtain⟨s',o,hC⟩:=q_
 have hc1:reqOf f=none→idOf f=none→s'=s∧o=none:=fun h1 h2=>by
  unfold comeS at hC;rw [h1] at hC;dsimp only at hC;rw [h2] at hC;cases hC;exact⟨rfl,rfl⟩
 have hc2:reqOf f=none→∀id,idOf f=some id→s'=s∧o=some (repB id 220 zAn):=fun h1 id h2=>by
  unfold comeS at hC;rw [h1] at hC;dsimp only at hC;rw [h2] at hC;cases hC;exact⟨rfl,rfl⟩
 have hc3:∀d,reqOf f=some d→d.kind=4→s'=(backS s d.id).1∧o=some (repB d.id (backS s d.id).2 zAn):=fun d h1 h2=>by
  unfold comeS at hC;rw [h1] at hC;dsimp only at hC;rw [if_pos h2] at hC;cases hC;exact⟨rfl,rfl⟩
 have hc4:∀d,reqOf f=some d→d.kind≠4→((askS g c s d (QyIs d.q g.n)).2=0∧s'=(askS g c s d (QyIs d.q g.n)).1∧o=none)∨((askS g c s d (QyIs d.q g.n)).2≠0∧s'=(askS g c s d (QyIs d.q g.n)).1∧o=some (repB d.id (askS g c s d (QyIs d.q g.n)).2 zAn)):=fun d h1 h2=>by
  unfold comeS at hC;rw [h1] at hC;dsimp only at hC;rw [if_neg h2] at hC
  by_cases h3:(askS g c s d (QyIs d.q g.n)).2=0
  ·rw [if_pos h3] at hC;cases hC;exact .inl ⟨h3,rfl,rfl⟩
  ·rw [if_neg h3] at hC;cases hC
   have hs:=(SrvX.reg S).2.2.2
   have q_:=ask_ok (x:=d) hs (zIy h1).2.1
   rcases q_ with ⟨h4,_⟩|⟨_,h4⟩
   ·exact absurd h4 h3
   ·exact .inr ⟨h3,h4.symm,rfl⟩
 rw [hC]
 dsimp only
 refine en TBok rfl ?_
 refine rpnil ?_
 refine rcall (zD5 hf) ?_
 rintro _ w1 ⟨⟨d,x,hr,rfl,O⟩|⟨hno,rfl⟩,e1⟩
 case inr =>
  refine ral fun bx w2 n2 X2=>?_
  refine rsto (B:=X2) (vs:=enc zRq) rfl rfl rfl (Enc.one _) fun w3 X3 f3 _=>?_
  have s3:Stp w1 w3:=⟨Fr.st Le.e f3 fun i hi=>by subst hi;exact n2.lo⟩
  clear X2 f3
  refine ite (fun _=>?_) (fun h=>absurd (by first|omega|decide|(dsimp only <;> omega)) h)
  refine rcall (zI1 hf) ?_
  rintro _ w4 ⟨⟨id,hid,rfl⟩|⟨hid,rfl⟩,e4⟩
  ·have q_:=hc2 hno id hid
   obtain⟨rfl,rfl⟩:=q_
   refine rcall zBC ?_
   rintro _ w5 ⟨rfl,e5⟩
   exact⟨rfl,SrvP.new (w':=w5) S hB⟩
  ·have q_:=hc1 hno hid
   obtain⟨rfl,rfl⟩:=q_
   exact⟨rfl,SrvP.new (w':=w4) S hB⟩
 case inl =>
  have hd:=zIy hr
  refine ral fun bx w2 n2 X2=>?_
  have hbx:=n2.lo (u:=w)
  refine rsto (B:=X2) (vs:=enc x) rfl rfl rfl (Enc.one _) fun w3 X3 f3 _=>?_
  have X3:Bk w3 bx (enc x) E.qc:=X3
  have s3:Stp w1 w3:=⟨Fr.st Le.e f3 fun i hi=>by subst hi;exact n2.lo⟩
  clear X2 f3
  refine ite (fun h=>absurd rfl h) (fun _=>?_)
  refine rbuild (cs:=[.func (.func F.qf) #[.pointer (some ⟨bs,0,none⟩)] #[]]) rfl ?_
  refine ral fun bd w4 n4 D4=>?_
  refine rsto (B:=D4) (vs:=[.func (.func F.qf) #[.pointer (some ⟨bs,0,none⟩)] #[]]) rfl rfl rfl (zIh _ _ _) fun w5 D5 f5 _=>?_
  have D5:Bk w5 bd [.func (.func F.qf) #[.pointer (some ⟨bs,0,none⟩)] #[]] E.ye:=D5
  have s5:Stp w3 w5:=⟨Fr.st Le.e f5 fun i hi=>by subst hi;exact n4.lo⟩
  clear D4 f5
  refine rld (B:=X3) rfl ?_
  have hk:=O.2.1
  refine ite (fun h4=>?_) (fun h4=>?_)
  ·refine rbuild (cs:=[.func (.func F.qe) #[.pointer (some ⟨bs,0,none⟩)] #[]]) rfl ?_
   refine rsto (B:=D5) (vs:=[.func (.func F.qe) #[.pointer (some ⟨bs,0,none⟩)] #[]]) rfl rfl rfl (zIh _ _ _) fun w6 D6 f6 _=>?_
   have D6:Bk w6 bd [.func (.func F.qe) #[.pointer (some ⟨bs,0,none⟩)] #[]] E.ye:=D6
   have s6:Stp w3 w6:=⟨Fr.st (Le.e (a:=w3) (b:=w5)) f6 fun i hi=>by subst hi;exact n4.lo⟩
   refine rld (B:=D6) rfl ?_
   refine rldG (ds:=enc x) (B:=X3) rfl (Enc.len _) ?_
   refine rcall (zGH (x:=x) (w0:=w) (w:=w6) S hB) ?_
   rintro _ w7 ⟨rfl,S7,f7⟩
   refine ite (fun _=>?_) (fun h=>absurd (zMf s x.id) h)
   have X7:=(X3.mv (w:=w6)).fr f7 fun h=>by have:=hlo _ h;omega
   refine rld (B:=X7) rfl ?_
   refine rcall zBC ?_
   rintro _ w8 ⟨rfl,e8⟩
   obtain⟨rfl,rfl⟩:=hc3 d hr (by rw [←hk];exact h4)
   have hz:=f7.size
   have hz2:=Le.size (a:=w) (b:=w6)
   rw [←O.1]
   refine⟨rfl,?_,((Fr.fr (Le.e (a:=w) (b:=w6))).trans f7).trans (Fr.fr (Le.e (a:=w7) (b:=w8)))⟩
   have hreg:=(SrvX.reg S).1
   exact SrvX.wide (SrvP.up (w':=w8) S7) (fun i hi=>hi.imp id fun h=>by have:=e8.e.size;omega) fun i hi=>by
    rcases hi with hi|hi
    ·have:=hreg i hi;have:=e8.e.size;omega
    ·omega
  ·refine rld (B:=D5) rfl ?_
   refine rldG (ds:=enc x) (B:=X3) rfl (Enc.len _) ?_
   refine rcall (zHC (w0:=w) (w:=w5) S hB (RqO.up (w':=w5) O) hd) ?_
   rintro _ w7 ⟨rfl,S7,f7⟩
   have hz:=f7.size
   have hz2:=Le.size (a:=w) (b:=w5)
   have fw7:=(Fr.fr (D:=R) (Le.e (a:=w) (b:=w5))).trans f7
   have hreg:=(SrvX.reg S).1
   have q_:=hc4 d hr (by rw [←hk];exact h4)
   rcases q_ with ⟨h1,rfl,rfl⟩|⟨h1,rfl,rfl⟩
   ·refine ite (fun h=>absurd h1 h) (fun _=>?_)
    exact⟨rfl,S7,fw7⟩
   ·refine ite (fun _=>?_) (fun h=>absurd h1 h)
    have X7:=(X3.mv (w:=w5)).fr f7 fun h=>by have:=hlo _ h;omega
    refine rld (B:=X7) rfl ?_
    refine rcall zBC ?_
    rintro _ w8 ⟨rfl,e8⟩
    rw [←O.1]
    refine⟨rfl,?_,fw7.trans (Fr.fr (Le.e (a:=w7) (b:=w8)))⟩
    exact SrvX.wide (SrvP.up (w':=w8) S7) (fun i hi=>hi.imp id fun h=>by have:=e8.e.size;omega) fun i hi=>by
     rcases hi with hi|hi
     ·have:=hreg i hi;have:=e8.e.size;omega
     ·omega
end
def cfgOk (x:RCfg):Prop:=(1≤x.workers∧x.workers≤16)∧(1≤x.slots∧x.slots≤64)∧(1≤x.queue∧x.queue≤1000)∧(1≤x.pool∧x.pool≤400)∧(1≤x.budget∧x.budget≤1000)
def cfOf (x:RCfg):CfD:=⟨x.workers.toNat,x.slots.toNat,x.queue.toNat,x.pool.toNat,x.budget.toNat⟩
theorem zMl{x:RCfg}(h:cfgOk x):CfOk (cfOf x):=by
 unfold cfgOk at h
 refine⟨?_,?_,?_,?_,?_⟩ <;> simp only [cfOf] <;> omega
section
variable {B B':Nat} {w w':World} {g:GrD}
theorem StoP.low{b gs size:Nat}{L:List StD}(h:StoP R B w b gs size L)(hB:B'≤B):StoP R B' w b gs size L:=by
 obtain⟨bt,ta,tc,ts,fa,fc,fr,sc,st,bm,m,ch,h,T,M,C,Z⟩:=h
 have ht:=h.tab
 obtain⟨g0,Rw,H,r⟩:=ht
 have hl:=h.lo
 exact⟨bt,ta,tc,ts,fa,fc,fr,sc,st,bm,m,ch,⟨⟨by omega,by omega,by omega⟩,h.cell,⟨Nat.le_trans hB g0,Rw,⟨H.cell,H.row.mono hB,H.len,H.tab,H.bnd,H.may,H.zero⟩,r⟩,h.free,h.sts.mono hB,h.map,fun s v hv=>⟨(h.rows s v hv).1.mono hB,(h.rows s v hv).2⟩,h.empt,h.apart,h.apart2⟩,T,M,C,Z⟩
theorem Stos.add{W pool:Nat}{K:SrvK}{RW:Nat→Nat→Prop}{b gs:Nat}{L:List StD}{Ls:Nat→List StD}(T:Stos B w W K pool RW Ls)[Le w w'](S:StoP (fun i=>w.heap.size≤i∧i<w'.heap.size) B w' b gs pool L)(hL:Ls W=L):
  Stos B w' (W+1) { K with sb:=fun k=>if k=W then b else K.sb k,sg:=fun k=>if k=W then gs else K.sg k } pool (updR RW W fun i=>w.heap.size≤i∧i<w'.heap.size) Ls:=by
 have T':=T.up (w':=w')
 have z:=Le.size (a:=w) (b:=w')
 have e:∀{j},j<W→updR RW W (fun i=>w.heap.size≤i∧i<w'.heap.size) j=RW j:=fun {j} h=>if_neg (by omega)
 have eW:updR RW W (fun i=>w.heap.size≤i∧i<w'.heap.size) W=fun i=>w.heap.size≤i∧i<w'.heap.size:=if_pos rfl
 refine⟨fun k j hk hj hne i hi=>?_,fun k hk=>?_,fun k hk i hi=>?_⟩
 ·by_cases h1:k=W
  ·subst h1
   rw [eW] at hi
   rw [e (show j<k by omega)]
   intro h2;have:=T.lt j (by omega) i h2;omega
  ·rw [e (show k<W by omega)] at hi
   by_cases h2:j=W
   ·subst h2
    rw [eW]
    intro h3;have:=T.lt k (by omega) i hi;omega
   ·rw [e (show j<W by omega)];exact T.dis k j (by omega) (by omega) hne i hi
 ·by_cases h1:k=W
  ·subst h1
   rw [eW,hL]
   simp only [if_true];exact S
  ·rw [e (show k<W by omega)]
   simp only [if_neg h1];exact T'.sto k (by omega)
 ·by_cases h1:k=W
  ·subst h1;rw [eW] at hi;exact hi.2
  ·rw [e (show k<W by omega)] at hi;exact T'.lt k (by omega) i hi
theorem zM3(g:GrD)(W n k:Nat):wkS g W (List.replicate n none) k=[]:=by
 unfold wkS allS
 rw [List.filter_eq_nil_iff]
 intro x hx
 have q_:=List.mem_flatMap.1 hx
 obtain⟨j,_,h⟩:=q_
 rw [List.getD_eq_getElem?_getD,List.getElem?_replicate] at h
 split at h <;> cases h
def zSrvK (bj jc:Nat) (xr:RRow) (r:List EdN) (ws:SV) (wl:List ByteArray) (ps:List RPo):SrvK:=⟨bj,jc,xr,r,ws,wl,ps,⟨none,0,0⟩,fun _=>0,fun _=>0⟩
set_option maxHeartbeats 4000000 in
theorem zBm{x:RCfg}{f:List UInt8}(hf:f.length≤4611686018427387904):
  Sp PP F.qp #[agg x,txt f] w fun v w'=>((¬cfgOk x∧v=.tuple #[.pointer none,.int .i64 1])∨(cfgOk x∧imgOf f=none∧v=.tuple #[.pointer none,.int .i64 30]) ∨
   ∃g bs,cfgOk x∧imgOf f=some g∧v=.tuple #[.pointer (some ⟨bs,0,none⟩),.int .i64 0]∧SrvP (fun i=>w.heap.size≤i∧i<w'.heap.size) w.heap.size w' bs g (cfOf x) (newS (cfOf x)))∧Stp w w':=by
 obtain⟨xw,xs,xq,xp,xb⟩:=x
 refine en TBok rfl ?_
 refine rbx fun bc w1 n1 C1=>?_
 refine rld (B:=C1) rfl ?_
 refine rcall (zIG (n:=xs)) ?_
 rintro _ w2 ⟨⟨v2,rfl,O2⟩,e2⟩
 by_cases hxs:xs<1∨64<xs
 ·have hnew:newH xs=([],1):=if_pos hxs
  rw [hnew] at O2 ⊢
  refine ite (fun _=>?_) (fun h=>absurd (by first|omega|decide|(dsimp only <;> omega)) h)
  exact⟨.inl ⟨fun h=>by have h1:1≤xs∧xs≤64:=h.2.1;omega,rfl⟩,stp⟩
 have hnew:newH xs=(List.replicate xs.toNat zeroH,0):=if_neg hxs
 rw [hnew] at O2 ⊢
 refine ite (fun h=>absurd rfl h) (fun _=>?_)
 refine rld (B:=C1) rfl ?_
 refine rcall zAS ?_
 rintro _ w3 ⟨⟨rfl,hw1⟩|⟨rfl,hw1⟩,rfl⟩
 case' inr=>exact⟨.inl ⟨fun h=>hw1 h.1,rfl⟩,stp⟩
 refine rld (B:=C1) rfl ?_
 refine rcall zAS ?_
 rintro _ w3 ⟨⟨rfl,hw2⟩|⟨rfl,hw2⟩,rfl⟩
 case' inr=>exact⟨.inl ⟨fun h=>hw2 h.2.2.1,rfl⟩,stp⟩
 refine rld (B:=C1) rfl ?_
 refine rcall zAS ?_
 rintro _ w3 ⟨⟨rfl,hw3⟩|⟨rfl,hw3⟩,rfl⟩
 case' inr=>exact⟨.inl ⟨fun h=>hw3 h.2.2.2.1,rfl⟩,stp⟩
 refine rld (B:=C1) rfl ?_
 refine rcall zAS ?_
 rintro _ w3 ⟨⟨rfl,hw4⟩|⟨rfl,hw4⟩,rfl⟩
 case' inr=>exact⟨.inl ⟨fun h=>hw4 h.2.2.2.2,rfl⟩,stp⟩
 have hw1:1≤xw∧xw≤16:=hw1
 have hw2:1≤xq∧xq≤1000:=hw2
 have hw3:1≤xp∧xp≤400:=hw3
 have hw4:1≤xb∧xb≤1000:=hw4
 have hcfg:cfgOk ⟨xw,xs,xq,xp,xb⟩:=⟨hw1,by dsimp only;omega,hw2,hw3,hw4⟩
 have hco:=zMl hcfg
 have q_:=Int.eq_ofNat_of_zero_le (show (0:Int)≤xw by omega)
 obtain⟨W,rfl⟩:=q_
 have q_:=Int.eq_ofNat_of_zero_le (show (0:Int)≤xs by omega)
 obtain⟨N,rfl⟩:=q_
 have q_:=Int.eq_ofNat_of_zero_le (show (0:Int)≤xq by omega)
 obtain⟨Q,rfl⟩:=q_
 have q_:=Int.eq_ofNat_of_zero_le (show (0:Int)≤xp by omega)
 obtain⟨P,rfl⟩:=q_
 have q_:=Int.eq_ofNat_of_zero_le (show (0:Int)≤xb by omega)
 obtain⟨U,rfl⟩:=q_
 have C1:Bk w1 bc [.int .i64 (W:Int),.int .i64 (N:Int),.int .i64 (Q:Int),.int .i64 (P:Int),.int .i64 (U:Int)] E.qs:=C1
 have hcf:cfOf ⟨W,N,Q,P,U⟩=⟨W,N,Q,P,U⟩:=by simp [cfOf]
 rw [hcf] at hco
 rw [Int.toNat_natCast] at O2
 have q_:=O2.shape
 obtain⟨a2,c2,rfl⟩:=q_
 have hl2:(List.replicate N zeroH).length=N:=by simp
 refine rcall (zGy hf) ?_
 rintro _ w4 ⟨⟨g,gx,vs,him,rfl,V4⟩|⟨him,rfl⟩,e4⟩
 case' inr =>
  refine ral fun bg w5 n5 G5=>?_
  refine rsto (B:=G5) (vs:=enc zGr) rfl rfl rfl (Enc.one _) fun w6 G6 f6 _=>?_
  have s6:Stp w4 w6:=⟨Fr.st Le.e f6 fun i hi=>by subst hi;exact n5.lo⟩
  clear G5 f6
  refine ite (fun _=>?_) (fun h=>absurd (by first|omega|decide|(dsimp only <;> omega)) h)
  exact⟨.inr (.inl ⟨hcfg,him,rfl⟩),stp⟩
 have hgi:=zLr him
 refine ral fun bg w5 n5 G5=>?_
 refine rsto (B:=G5) (vs:=enc gx) rfl rfl rfl (Enc.one _) fun w6 G6 f6 _=>?_
 have G6:Bk w6 bg (enc gx) E.qd:=G6
 have s6:Stp w4 w6:=⟨Fr.st Le.e f6 fun i hi=>by subst hi;exact n5.lo⟩
 clear G5 f6
 refine ite (fun h=>absurd rfl h) (fun _=>?_)
 refine drawR TBok mixed (fun _=>False) (upF 8 0) (by kernel_rfl) fun w7 e7 _=>?_
 refine tldG (ds:=enc (⟨W,N,Q,P,U⟩:RCfg)) (B:=C1) rfl rfl not_false ?_
 refine tld (B:=C1) rfl not_false ?_
 refine rmk zJob rfl rfl (by omega) fun bj w8 OJ s8 hbj=>⟨s8.e,?_⟩
 refine tbuild (cs:=srvL ⟨W,N,Q,P,U⟩ (zSrvK bj N ⟨⟨none,0,0⟩,⟨none,0,0⟩,⟨none,0,0⟩,⟨none,0,0⟩⟩ [] ⟨none,0,0⟩ [] []) ⟨none,0,0⟩ ⟨a2,(List.replicate N zeroH).length,c2⟩) (by rw [hl2];rfl) ?_
 refine rbx fun bs w9 n9 S9=>⟨n9.e,?_⟩
 have b1:=n1.b;have l1:=n1.lt
 have b9:=n9.b;have l9:=n9.lt
 have z8:=Le.size (a:=w) (b:=w8)
 have z78:=Le.size (a:=w) (b:=w7)
 have hbj9:bj<bs:=by
  have h1:=OJ.lt (by intro h;have:=congrArg List.length h;simp at this;omega)
  obtain⟨gq,h1,_,h3⟩:=h1
  have h4:bj=gq:=Option.some.inj h1
  omega
 refine rldG (ds:=enc gx) (B:=G6) rfl (Enc.len _) ?_
 refine rcall (zIB (V4.up (w':=w9)) hgi) ?_
 rintro _ w10 ⟨⟨y,r,rfl,RO⟩,e10⟩
 refine ral fun br w11 n11 R11=>?_
 refine rsto (B:=R11) (vs:=enc y) rfl rfl rfl (Enc.one _) fun w12 R12 f12 _=>?_
 have R12:Bk w12 br (enc y) E.qv:=R12
 have s12:Stp w10 w12:=⟨Fr.st Le.e f12 fun i hi=>by subst hi;exact n11.lo⟩
 have hbr:=n11.lo (u:=w9)
 clear R11 f12
 refine rldG (ds:=enc gx) (B:=G6) rfl (Enc.len _) ?_
 refine rcall (zGc (V4.up (w':=w12)) hgi) ?_
 rintro _ w13 ⟨⟨pa,pc,ps,wl,rfl,PM,_,hpn,OP,OPs⟩,e13⟩
 refine rldG (ds:=enc y) (B:=R12) rfl (Enc.len _) ?_
 have z10:=e10.e.size
 have z12:=Le.size (a:=w10) (b:=w12)
 have z13:=e13.e.size
 refine rsto (B:=S9) (vs:=enc y) rfl rfl rfl (Enc.one _) fun w14 S14 f14 _=>?_
 refine rsto (B:=S14) (vs:=[.slice pa ps.length pc]) rfl rfl rfl (sv1 _ _ _) fun w15 S15 f15 _=>?_
 have q_:∃K:SrvK,K=zSrvK bj N y r ⟨pa,ps.length,pc⟩ wl ps:=⟨_,rfl⟩
 obtain⟨K,hK⟩:=q_
 have S15:Bk w15 bs (srvL ⟨W,N,Q,P,U⟩ K ⟨none,0,0⟩ ⟨a2,(List.replicate N zeroH).length,c2⟩) E.qk:=by
  rw [hK];exact S15
 clear S14 S9
 have f1315:Fr (fun i=>i=bs) w13 w15:=f14.trans f15
 have z15:=f1315.size
 have s15:Stp w8 w15:=⟨Fr.st (Le.e (a:=w8) (b:=w13)) f1315 fun i hi=>by omega⟩
 refine rld (B:=C1) rfl ?_
 refine cnt TBok 82 [4,5,14,15] 82 W (fun j u=>∃(wa:Option Addr) (wc:Nat) (sb sg:Nat→Nat) (RW:Nat→Nat→Prop),
   Own w.heap.size E.ya u (.slice wa j wc) ((List.range j).map fun k=>(⟨sb k⟩:RPtr)) ∧
   Bk u bs (srvL ⟨W,N,Q,P,U⟩ { K with wk:=⟨wa,j,wc⟩ } ⟨none,0,0⟩ ⟨a2,(List.replicate N zeroH).length,c2⟩) E.qk ∧
   Stos w.heap.size u j { K with sb:=sb,sg:=sg } P RW (fun _=>[])∧(∀k,k<j→∀i,RW k i→w15.heap.size≤i) ∧
   (∀b,Value.blk (.slice wa j wc)=some b→w15.heap.size≤b∧b<u.heap.size∧∀k,k<j→¬RW k b)∧Fr (fun i=>i=bs) w15 u) rfl rfl
  ⟨none,0,fun _=>0,fun _=>0,fun _ _=>False,Own.nil _ _ _,by rw [hK] at S15 ⊢;exact S15,⟨fun k j hk=>by omega,fun k hk=>by omega,fun k hk=>by omega⟩,(fun k hk=>by omega),(fun b hb=>by cases hb),Fr.refl _ _⟩ ?_
 rintro j G u hj ⟨wa,wc,sb,sg,RW,OW,Su,T,hlo,hblk,f⟩
 have zu:=f.size
 have su:Stp w8 u:=⟨Fr.st (Le.e (a:=w8) (b:=w15)) f fun i hi=>by omega⟩
 refine ite (fun hlt=>?_) (fun hge=>?_)
 ·have hja:j<W:=Int.ofNat_lt.1 hlt
  refine rld (B:=C1) rfl ?_
  refine rcall (zIJ (size:=(P:Int))) ?_
  rintro _ u1 ⟨⟨hno,_⟩|⟨N',b,gs,hN',_,_,rfl,SN⟩,e1⟩
  ·omega
  have q_:P=N':=by omega
  obtain rfl:=q_
  have z1:=e1.e.size
  refine ite (fun h=>absurd rfl h) (fun _=>?_)
  refine rld (B:=Su) rfl ?_
  refine rbs1 (⟨b⟩:RPtr) rfl rfl (by decide) fun b2 u2 n2 _ S2=>?_
  have z2:=n2.e.size
  refine rappD ⟨rfl,rfl⟩ (OW.up (w':=u2)) S2 (by simp) (by omega) (by simp;omega) fun v3 u3 O3 f3 hv3=>?_
  have hv3:Value.blk v3=Value.blk (.slice wa j wc)∨Value.blk v3=some u2.heap.size:=hv3
  have f3:Fr (ownD w.heap.size (.slice wa j wc)) u2 u3:=f3
  have z3:=f3.size
  have hv:∀b,ownD w.heap.size (.slice wa j wc) b→w15.heap.size≤b∧b<u.heap.size∧∀k,k<j→¬RW k b:=fun b hb=>hblk b hb.2.1
  have hbsl:bs<w15.heap.size:=by omega
  have Su2:=(Su.mv (w:=u2)).fr f3 fun h=>by have:=hv _ h;omega
  have hl3:((List.range j).map (fun k=>(⟨sb k⟩:RPtr))++[(⟨b⟩:RPtr)]).length=j+1:=by simp
  have hsh:∃a c,v3=.slice a (j+1) c:=by
   have h:=O3.shape
   rw [hl3] at h;exact h
  obtain⟨a3,c3,hv3e⟩:=hsh
  subst hv3e
  refine rsto (B:=Su2) (vs:=[.slice a3 (j+1) c3]) rfl rfl rfl (sv1 _ _ _) fun u4 S4 f4 _=>?_
  have S4:Bk u4 bs (srvL ⟨W,N,Q,P,U⟩ { K with wk:=⟨a3,j+1,c3⟩ } ⟨none,0,0⟩ ⟨a2,(List.replicate N zeroH).length,c2⟩) E.qk:=S4
  have z4:=f4.size
  have hb3:∀b',Value.blk (.slice a3 (j+1) c3)=some b'→w15.heap.size≤b'∧b'<u3.heap.size∧(∀k,k<j→¬RW k b')∧¬(u.heap.size≤b'∧b'<u1.heap.size):=fun b' hb'=>by
   have q_:=O3.lt (by simp)
   obtain⟨gq,g1,_,g3⟩:=q_
   rw [hb'] at g1;cases g1
   rcases hv3 with h|h
   ·rw [hb'] at h
    have:=hblk b' h.symm
    exact⟨this.1,g3,this.2.2,by omega⟩
   ·rw [hb'] at h;cases h
    exact⟨by omega,g3,fun k hk h2=>by have:=T.lt k hk _ h2;omega,by omega⟩
  have k1:Own w.heap.size E.ya u4 (.slice a3 (j+1) c3) ((List.range (j+1)).map fun k=>(⟨(fun k=>if k=j then b else sb k) k⟩:RPtr)):=by
   have e:((List.range (j+1)).map fun k=>(⟨(fun k=>if k=j then b else sb k) k⟩:RPtr))=(List.range j).map (fun k=>(⟨sb k⟩:RPtr))++[(⟨b⟩:RPtr)]:=by
    rw [List.range_succ,List.map_append]
    congr 1
    ·apply List.map_congr_left
     intro k hk
     have:=List.mem_range.1 hk
     dsimp only
     rw [if_neg (by omega)]
    ·simp
   rw [e]
   exact O3.fr f4 fun b' _ hb' h=>by have:=hb3 b' hb';omega
  have T1:=(Stos.add (L:=[]) (Ls:=fun _=>[]) T (SN.low (by omega)) rfl)
  have T4:Stos w.heap.size u4 (j+1) { K with sb:=fun k=>if k=j then b else sb k,sg:=fun k=>if k=j then gs else sg k } P (updR RW j fun i=>u.heap.size≤i∧i<u1.heap.size) (fun _=>[]):=by
   refine((T1.up (w':=u2)).away f3 fun k hk i hi h=>?_).away f4 fun k hk i hi h=>?_
   ·have h5:=hv i h
    unfold updR at hi
    split at hi
    ·omega
    ·exact h5.2.2 k (by omega) hi
   ·unfold updR at hi
    split at hi
    ·omega
    ·have:=hlo k (by omega) i hi;omega
  have k4:∀k,k<j+1→∀i,updR RW j (fun i=>u.heap.size≤i∧i<u1.heap.size) k i→w15.heap.size≤i:=fun k hk i hi=>by
   unfold updR at hi
   split at hi
   ·omega
   ·exact hlo k (by omega) i hi
  have k5:∀b',Value.blk (.slice a3 (j+1) c3)=some b'→w15.heap.size≤b'∧b'<u4.heap.size∧∀k,k<j+1→¬updR RW j (fun i=>u.heap.size≤i∧i<u1.heap.size) k b':=fun b' hb'=>by
   have h5:=hb3 b' hb'
   refine⟨h5.1,by omega,fun k hk hi=>?_⟩
   unfold updR at hi
   split at hi
   ·exact h5.2.2.2 hi
   ·exact h5.2.2.1 k (by omega) hi
  have k6:Fr (fun i=>i=bs) w15 u4:=(f.join ((Fr.fr (D:=ownD w.heap.size (.slice wa j wc)) (Le.e (a:=u) (b:=u2))).trans f3) (fun _ _ h=>h) fun i hi h=>by have:=hv i h;omega).trans f4
  clear O3 f3 hv3 hv hb3 T1 Su2 OW
  exact rar (by omega) ⟨rfl,hja,a3,c3,_,_,_,k1,S4,T4,k4,k5,k6⟩
 ·have hjW:j=W:=by have h5:=Int.ofNat_le.1 (Int.not_lt.1 hge);exact Nat.le_antisymm hj h5
  subst hjW
  have hR:∀{C:Nat},w.heap.size≤C→∀{lim:Nat},lim≤w15.heap.size→(∀i,C≤i→i<lim→¬i=bs∧¬i=bj)→∀i,C≤i→i<lim→(w.heap.size≤i∧i<u.heap.size)∧¬mutS bs bj j RW i:=fun {C} hC {lim} hl hn i h1 h2=>by
   refine⟨by omega,fun h=>?_⟩
   rcases h with h|h|⟨k,hk,h⟩
   ·exact(hn i h1 h2).1 h
   ·exact(hn i h1 h2).2 h
   ·have:=hlo k hk i h;omega
  have hKj:K.bj=bj:=by rw [hK];rfl
  have f13u:Fr (fun i=>i=bs) w13 u:=f1315.trans f
  have rowF:∀{α:Type} [Enc α] {e:TypeId} {C:Nat} {v:Value} {l:List α} {u0:World},Own C e u0 v l→Le w9 u0→u0.heap.size≤w13.heap.size→w9.heap.size≤C→Own C e w13 v l→Fz (mutS bs bj j RW) (fun i=>w.heap.size≤i∧i<u.heap.size) u fun u=>SlF u v l:=fun {α _ e C v l u0} O L0 hz hC O13 =>
   O.fzB (O13.fr f13u fun b hb _ h=>by omega).sl (hR (by omega) (by omega) fun i h1 h2=>by omega)
  have Zoff:=rowF RO.off inferInstance (by omega) (Nat.le_refl _) (RO.off.up (w':=w13))
  have Zto:=rowF RO.to inferInstance (by omega) (Nat.le_refl _) (RO.to.up (w':=w13))
  have Zrof:=rowF RO.rof inferInstance (by omega) (Nat.le_refl _) (RO.rof.up (w':=w13))
  have Zrev:=rowF RO.rev inferInstance (by omega) (Nat.le_refl _) (RO.rev.up (w':=w13))
  have Zps:=rowF OP inferInstance (Nat.le_refl _) (by omega) OP
  have Zpl:∀i (h:i<ps.length) (h':i<wl.length),Fz (mutS bs bj j RW) (fun i=>w.heap.size≤i∧i<u.heap.size) u fun u=>SlF u ps[i].pl.v (plOf g wl[i]):=fun i h h'=>rowF (OPs i h h') inferInstance (Nat.le_refl _) (by omega) (OPs i h h')
  have Zhd:Fz (mutS bs bj j RW) (fun i=>w.heap.size≤i∧i<u.heap.size) u fun u=>SlF u (.slice a2 (List.replicate N zeroH).length c2) (List.replicate N zeroH):=by
   have z2:=Le.size (a:=w3) (b:=w7)
   have O13:=((O2.up (w':=w13)).fr f13u fun b _ hb h=>by
    obtain⟨gq,g1,_,g3⟩:=O2.lt (by intro h;have:=congrArg List.length h;simp at this;omega)
    rw [hb] at g1;cases g1
    omega)
   exact O2.fzB O13.sl (hR (by have:=Le.size (a:=w) (b:=w1);omega) (by omega) fun i h1 h2=>by omega)
  have Ju:Own w.heap.size E.qy u (.slice (some ⟨bj,0,none⟩) N N) (List.replicate N zJob):=((OJ.up (w':=w13)).fr f13u fun b _ hb h=>by
   have:bj=b:=Option.some.inj hb
   omega).mono (by omega)
  refine⟨.inr (.inr ⟨g,bs,hcfg,him,rfl,?_⟩),stp⟩
  rw [hcf]
  refine⟨{ K with wk:=⟨wa,j,wc⟩,sb:=sb,sg:=sg },⟨none,0,0⟩,⟨a2,(List.replicate N zeroH).length,c2⟩,[],List.replicate N zeroH,List.replicate N zJob,RW,?_⟩
  subst hK
  refine⟨fun i hi=>hi,by omega,?_,?_,fun k hk i hi=>?_,Su,Ju,⟨T.dis,fun k hk=>by rw [show (newS ⟨j,N,Q,P,U⟩).held=List.replicate N none from rfl,zM3];exact T.sto k hk,T.lt⟩,fun u' f'=>?_,hgi,hco,hpn,new_ok g _⟩
  ·show w.heap.size≤bj∧bj<u.heap.size
   omega
  ·show bs≠bj
   omega
  ·have h1:=hlo k hk i hi
   have h2:=T.lt k hk i hi
   exact⟨by omega,by omega,by show i≠bj;omega⟩
  ·refine⟨⟨RO.rev',Zoff u' f',Zto u' f',Zrof u' f',Zrev u' f'⟩,⟨PM.ris,PM.all,PM.len,fun i h h'=>⟨(PM.at' i h h').1,Zpl i h h' u' f'⟩⟩,Zps u' f',OW.sl.fr f' fun b hb hd=>?_,SlF.nil _,Zhd u' f',rfl,fun i h=>absurd h (Nat.not_lt_zero _),by simp [newS],by simp [newS],fun k h h'=>?_⟩
   ·have h1:=hblk b hb
    rcases hd with hd|hd
    ·rcases hd with hd|hd|⟨k,hk,hd⟩
     ·omega
     ·have hd:b=bj:=hd
      omega
     ·exact h1.2.2 k hk hd
    ·exact hd ⟨by omega,h1.2.1⟩
   ·have e:(newS ⟨j,N,Q,P,U⟩).held.getD k none=none:=by
     show (List.replicate N none).getD k none=none
     rw [List.getD_eq_getElem?_getD,List.getElem?_replicate];split <;> rfl
    rw [e]
    show ((List.replicate N zeroH)[k]).used=false
    simp [zeroH]
end
end Go.W
namespace Go.W
open Go
variable {B i j k m n n3:Nat} {P:Program} {R:Nat → Prop} {a a' a3:Option Addr} {g:GrD} {ps:List Int} {q:QyD} {u w w' w1 w2:World}
section
variable {g:GrD} {c:CfD}
end
theorem rdB(h:n<128)(t:List UInt8):rdN (UInt8.ofNat n::t)=some (n,t):=by
 have:=zMB (n:=n) (by omega) t
 rwa [numB_lt h] at this
def im0:List UInt8:=[119,103,2,1,1,0,0,0]
def g0:GrD:=⟨2,[⟨0,1⟩],[[],[]]⟩
def c0:CfD:=⟨1,1,1,9,9⟩
theorem g0_is:GrIs g0:=by
 refine⟨⟨by decide,by decide,by decide⟩,by decide,rfl,?_,by simp [g0],?_⟩
 ·intro l hl
  have:l=[]:=by simpa [g0] using hl
  subst this;simp
 ·intro l hl
  have:l=[]:=by simpa [g0] using hl
  subst this;exact .nil
theorem im0_rd:rdI im0=some (2,[([1],[]),([],[])],[]):=by
 have e1:rdN [2,1,1,0,0,0]=some (2,[1,1,0,0,0]):=rdB (n:=2) (by decide) _
 have e2:rdN [1,1,0,0,0]=some (1,[1,0,0,0]):=rdB (n:=1) (by decide) _
 have e3:rdN [1,0,0,0]=some (1,[0,0,0]):=rdB (n:=1) (by decide) _
 have e4:rdN [0,0,0]=some (0,[0,0]):=rdB (n:=0) (by decide) _
 have e5:rdN [0,0]=some (0,[0]):=rdB (n:=0) (by decide) _
 have e6:rdN [0]=some (0,[]):=rdB (n:=0) (by decide) _
 show (match rdN [2,1,1,0,0,0] with
  |some (n,t)=>if n≤200 then (match rdMany rdPl n t with|some (ps,u)=>some (n,ps,u)|none=>none) else none
  |none=>none)=_
 rw [e1]
 simp [rdMany,rdPl,rdRow,rdWs,e2,e3,e4,e5,e6]
theorem im0_g:imgOf im0=some g0:=by
 unfold imgOf
 rw [im0_rd]
 exact if_pos ⟨rfl,g0_is⟩
def q7:QyD:=⟨1,0,1,[],0,0⟩
def x7:RqD:=⟨7,1,q7⟩
def x8:RqD:=⟨8,1,q7⟩
theorem q7_is(n:Int)(h:2≤n):QyIs q7 n:=⟨.inl rfl,⟨by decide,by show (0:Int)<n;omega⟩,fun _=>⟨by decide,by show (1:Int)<n;omega⟩,fun h=>by simp [q7] at h⟩
theorem rq_is{id:Int}(h:0≤id∧id≤2147483647):RqIs ⟨id,1,q7⟩:=⟨.inr ⟨rfl,q7_is 200 (by decide)⟩,h,by
 show (if (1:Int)=4 then q7=zQy else if (1:Int)=3 then q7.to=0 else q7.words=[]∧q7.rad=0∧q7.most=0)
 rw [if_neg (by decide),if_neg (by decide)];exact⟨rfl,rfl,rfl⟩⟩
theorem rd7(h:n<128):rdR [UInt8.ofNat n,1,0,1]=some (⟨n,1,q7⟩,[]):=by
 have e1:rdN [UInt8.ofNat n,1,0,1]=some (n,[1,0,1]):=rdB h _
 have e2:rdN [1,0,1]=some (1,[0,1]):=rdB (n:=1) (by decide) _
 have e3:rdN [0,1]=some (0,[1]):=rdB (n:=0) (by decide) _
 have e4:rdN [1]=some (1,[]):=rdB (n:=1) (by decide) _
 unfold rdR
 rw [e1];dsimp only
 rw [e2];dsimp only
 rw [if_pos (by decide),if_neg (by decide)]
 unfold rdQ
 rw [e3];dsimp only
 rw [if_pos (by decide),e4];rfl
theorem req7:reqOf [7,1,0,1]=some x7:=by
 have e:rdR [7,1,0,1]=some (x7,[]):=rd7 (n:=7) (by decide)
 unfold reqOf;rw [e];exact if_pos (rq_is (by decide))
theorem req8:reqOf [8,1,0,1]=some x8:=by
 have e:rdR [8,1,0,1]=some (x8,[]):=rd7 (n:=8) (by decide)
 unfold reqOf;rw [e];exact if_pos (rq_is (by decide))
theorem come7:comeS g0 c0 (newS c0) [7,1,0,1]=(⟨[x7],[none]⟩,none):=by
 have e:askS g0 c0 (newS c0) x7 (QyIs x7.q g0.n)=(⟨[x7],[none]⟩,0):=by
  unfold askS;rw [if_pos (show QyIs x7.q (g0.n:Int) from q7_is 2 (by decide))];rfl
 unfold comeS;rw [req7];dsimp only
 rw [if_neg (by decide),e];rfl
theorem enc252:repB 8 252 zAn=[8,252,1]:=by
 have h:RepOk (repOf 8 252 zAn) zAn.hits:=zFn (by decide) (by decide)
 unfold repB
 rw [if_pos h]
 have e1:numB 8=[8]:=numB_lt (by decide)
 have e2:numB 252=[252,1]:=by rw [zBu (by decide),numB_lt (by decide)];rfl
 simp [encR,repOf,numsB,e1,e2]
theorem come8:comeS g0 c0 ⟨[x7],[none]⟩ [8,1,0,1]=(⟨[x7],[none]⟩,some [8,252,1]):=by
 have e:askS g0 c0 ⟨[x7],[none]⟩ x8 (QyIs x8.q g0.n)=(⟨[x7],[none]⟩,252):=by
  unfold askS;rw [if_pos (show QyIs x8.q (g0.n:Int) from q7_is 2 (by decide))];rfl
 unfold comeS;rw [req8];dsimp only
 rw [if_neg (by decide),e];dsimp only
 rw [if_neg (by decide),←enc252];rfl
section
variable {g:GrD} {c:CfD}
theorem zHr{s:SvD}{l:List RqD}{h h':Hs}{o:Option (List UInt8)}(ha:admitS s.wait s.held=(l,h))(hu:usedS h=[0])(hs:(stepS g c h 0).1=h')(ho:(stepS g c h 0).2=o):tickS g c s=(⟨l,h'⟩,o.toList):=by
 unfold tickS
 rw [ha];dsimp only
 rw [hu]
 show ((⟨l,(stepS g c h 0).1⟩:SvD),(stepS g c h 0).2.toList++[])=_
 rw [hs,ho,List.append_nil]
end
def h0 (j:Nat):Hs:=[some (x7,j)]
theorem tick7a:tickS g0 c0 ⟨[x7],[none]⟩=(⟨[],h0 1⟩,[]):=by
 have e:(h0 0).getD 0 none=some (x7,0):=rfl
 have q_:=zDb (g:=g0) (c:=c0) e (by decide) (by decide) (by decide)
 obtain⟨q1,q2⟩:=q_
 have q3:=(zDF (g:=g0) (c:=c0) (h0 0) 0).1
 rw [q1] at q3
 exact zHr (h:=h0 0) (o:=none) rfl rfl q2 q3
theorem done7:doneL g0 q7 (sts g0 q7 0 2) (mls g0 q7 0 2)=(⟨true,1,[]⟩,true):=by decide
theorem enc7:bytR (7,0,⟨true,1,[]⟩)=[7,0,1,1,0]:=by
 have h:RepOk (repOf 7 0 ⟨true,1,[]⟩) []:=⟨by decide,by decide,by decide,by decide,by simp [repOf],by simp [repOf],by simp,by simp⟩
 unfold bytR repB
 rw [if_pos h]
 have e1:numB 7=[7]:=numB_lt (by decide)
 have e2:numB 0=[0]:=numB_lt (by decide)
 have e3:numB 1=[1]:=numB_lt (by decide)
 simp [encR,repOf,numsB,hitsB,e1,e2,e3]
theorem tick7b:tickS g0 c0 ⟨[],h0 1⟩=(⟨[],[none]⟩,[[7,0,1,1,0]]):=by
 have e:(h0 1).getD 0 none=some (x7,1):=rfl
 have hd:doneL g0 x7.q (sts g0 x7.q (0:Nat) (1+1)) (mls g0 x7.q (0:Nat) (1+1))=(⟨true,1,[]⟩,true):=done7
 have q_:=zBU (g:=g0) (c:=c0) e (by decide) (by rw [hd])
 obtain⟨q1,q2⟩:=q_
 have q3:=(zDF (g:=g0) (c:=c0) (h0 1) 0).1
 rw [q1,hd] at q3
 have q4:(stepS g0 c0 (h0 1) 0).2=some [7,0,1,1,0]:=by rw [q3,←enc7];rfl
 exact zHr (h:=h0 1) rfl rfl q2 q4
theorem tick7c:tickS g0 c0 ⟨[],[none]⟩=(⟨[],[none]⟩,[]):=rfl
theorem live7:((List.range 1).map fun k=>(liveW g0 1 [none] k:Int))=[0]:=by decide
end Go.W
namespace Go.W
open Go Go.Proofs
open Enc (enc)
set_option maxRecDepth 10000
variable {B i j k m n n3:Nat} {P:Program} {R:Nat → Prop} {a a' a3:Option Addr} {g:GrD} {ps:List Int} {q:QyD} {u w w' w1 w2:World}
theorem zH8:Sp PP F.cy #[] w fun v w'=>v=agg (⟨1,1,1,9,9⟩:RCfg)∧Stp w w':=by
 refine en TBok rfl ?_
 refine ral fun b w1 n1 Z1=>?_
 refine rbuild (cs:=enc (⟨1,1,1,9,9⟩:RCfg)) rfl ?_
 refine rsto (B:=Z1) (vs:=enc (⟨1,1,1,9,9⟩:RCfg)) rfl rfl rfl (Enc.one _) fun w2 B2 f2 _=>?_
 have B2:Bk w2 b (enc (⟨1,1,1,9,9⟩:RCfg)) E.qs:=B2
 have s2:Stp w w2:=⟨Fr.st (Le.e (a:=w) (b:=w1)) f2 fun i hi=>by subst hi;exact n1.lo⟩
 refine rresG (B:=B2) rfl ?_
 exact⟨rfl,s2⟩
theorem SrvP.stw{bs:Nat}{c:CfD}{s:SvD}(S:SrvP R B w bs g c s)(f:Fr R w w')(h:u.heap.size≤B):Stw u w w':=f.stw fun i hi=>Nat.le_trans h ((SrvX.reg S).1 i hi).1
set_option maxHeartbeats 2000000 in
theorem zAI:Sp PP F.d7 #[] w fun v w'=>v=.bool true∧Stp w w':=by
 refine en TBok rfl ?_
 refine rcall zH8 ?_
 rintro _ w1 ⟨rfl,e1⟩
 refine rcall (zBm (x:=⟨1,1,1,9,9⟩) (f:=im0) (by decide)) ?_
 rintro _ w2 ⟨⟨hc,_⟩|⟨_,hi,_⟩|⟨g,bs,hc,hi,rfl,S2⟩,e2⟩
 case' inl=>exact absurd (show cfgOk ⟨1,1,1,9,9⟩ by unfold cfgOk;decide) hc
 case' inr.inl=>exact absurd (im0_g.symm.trans hi) (by simp)
 have q_:g=g0:=Option.some.inj (hi.symm.trans im0_g)
 obtain rfl:=q_
 have hcf:cfOf ⟨1,1,1,9,9⟩=c0:=rfl
 rw [hcf] at S2
 have z2:=e2.e.size
 refine rpnil ?_
 refine ite (fun h=>absurd rfl h) (fun _=>?_)
 have D3:=zBd (f:=[7,1,0,1]) S2 z2 (by decide)
 rw [come7] at D3
 refine rcall D3 ?_
 rintro _ w3 ⟨rfl,S3,f3⟩
 have z3:=f3.size
 have t3:Stw w1 w2 w3:=S2.stw f3 (Nat.le_refl _)
 have D4:=zBd (f:=[8,1,0,1]) S3 (by omega) (by decide)
 rw [come8] at D4
 refine rcall D4 ?_
 rintro _ w4 ⟨rfl,S4,f4⟩
 have z4:=f4.size
 have t4:Stw w1 w3 w4:=S3.stw f4 (Nat.le_refl _)
 have D5:=zAQ (ps:=[]) S4 (by omega) fun u _=>SlF.nil u
 rw [tick7a] at D5
 refine rcall D5 ?_
 rintro _ w5 ⟨R5,O5,_,S5,_,f5⟩
 have z5:=f5.size
 have t5:Stw w1 w4 w5:=S4.stw f5 (Nat.le_refl _)
 have D6:=zAQ (ps:=[]) S5 (by omega) fun u _=>SlF.nil u
 rw [tick7b] at D6
 refine rcall D6 ?_
 rintro _ w6 ⟨R6,O6,hoff,S6,_,f6⟩
 have z6:=f6.size
 have t6:Stw w1 w5 w6:=S5.stw f6 (Nat.le_refl _)
 have D7:=zAQ (ps:=[]) S6 (by omega) fun u _=>SlF.nil u
 rw [tick7c] at D7
 refine rcall D7 ?_
 rintro _ w7 ⟨R7,O7,_,S7,_,f7⟩
 have z7:=f7.size
 have t7:Stw w1 w6 w7:=S6.stw f7 (Nat.le_refl _)
 have O67:=O6.fr f7 fun b _ hb=>(hoff b hb).2
 have q_:=O5.shape
 obtain⟨a5,c5,rfl⟩:=q_
 have q_:=O67.shape
 obtain⟨a6,c6,rfl⟩:=q_
 have q_:=O7.shape
 obtain⟨a7,c7,rfl⟩:=q_
 refine rbuild (cs:=enc (⟨0,0,0,0,0⟩:RCfg)) rfl ?_
 have n8:¬cfgOk ⟨0,0,0,0,0⟩:=by unfold cfgOk;decide
 have D8:Sp PP F.qp #[agg (⟨0,0,0,0,0⟩:RCfg),txt []] w7 fun v w'=>v=.tuple #[.pointer none,.int .i64 1]∧Stp w7 w':=(zBm (x:=⟨0,0,0,0,0⟩) (f:=[]) (by decide)).mono fun v w' h=>by
  obtain⟨h,e⟩:=h
  refine⟨?_,e⟩
  rcases h with ⟨_,h⟩|⟨h,_⟩|⟨_,_,h,_⟩
  ·exact h
  ·exact absurd h n8
  ·exact absurd h n8
 refine rcall D8 ?_
 rintro _ w8 ⟨rfl,e8⟩
 refine rseq (fun _=>?_) (fun h=>absurd rfl h)
 refine ite (fun _=>?_) (fun h=>absurd (by simp) h)
 refine ite (fun _=>?_) (fun h=>absurd (by simp) h)
 refine rix (i:=0) (O67.sl.up (w':=w8)) (x:=bsOf [7,0,1,1,0]) rfl fun b9 o9 A9=>rload1 (A9.cell0 rfl) ?_
 refine rseq (fun _=>?_) (fun h=>absurd rfl h)
 refine ite (fun _=>?_) (fun h=>absurd (by simp) h)
 refine rpnil ?_
 refine ite (fun _=>?_) (fun h=>absurd rfl h)
 have D9:=zBI (S7.up (w':=w8))
 rw [show (List.range c0.workers).map (fun k=>(liveW g0 c0.workers (⟨[],[none]⟩:SvD).held k:Int))=[0] from live7] at D9
 refine rcall D9 ?_
 rintro _ w9 ⟨O9,e9⟩
 have q_:=O9.shape
 obtain⟨a9,c9,rfl⟩:=q_
 refine rbs1 (0:Int) rfl rfl (by decide) fun b10 w10 e10 _ S10=>?_
 refine rcall ((zCT (O9.sl.up (w':=w10)) S10 (by simp)).tt rfl) ?_
 rintro _ w11 ⟨rfl,e11⟩
 exact⟨rfl,stp⟩
structure REv where
 tick:Bool
 frame:List UInt8
 picks:SV
instance:Enc REv:=⟨3,fun x=>[.bool x.tick,txt x.frame,.slice x.picks.a x.picks.n x.picks.c],fun _=>rfl,by intro x u hu;simp at hu;rcases hu with rfl|rfl|rfl <;> rfl,by decide⟩
def EvsM (w:World) (l:List REv):Prop:=∀y∈l,∃ps:List Int,SlF w y.picks.v ps
def EvsS (l:List REv):Prop:=l.length≤80∧∀y∈l,y.frame.length≤300∧y.picks.n≤60
theorem zKi{c:Nat}{l:List REv}(h:SlF w (.slice a n c) l):Sp PP F.pv #[.slice a n c] w fun v w'=>(v=.bool true∨(v=.bool false∧EvsS l))∧Stp w w':=by
 have q_:=h.len
 obtain rfl:=q_
 refine en TBok rfl ?_
 refine cnt TBok 4 [2] 3 l.length (fun k u=>(k=0∨l.length≤80)∧(∀y∈l.take k,y.frame.length≤300∧y.picks.n≤60)∧Stp w u) rfl rfl ⟨.inl rfl,by simp,stp⟩ ?_
 rintro k g u hk ⟨h80,hm,su⟩
 have fin:(l.length≤80→k=l.length)→IteC ((80:Int)<l.length) ((Value.bool true=Value.bool true∨(Value.bool true=Value.bool false∧EvsS l))∧Stp w u) ((Value.bool false=Value.bool true∨(Value.bool false=Value.bool false∧EvsS l))∧Stp w u):=by
  intro hf
  refine ite (fun h=>⟨.inl rfl,su⟩) (fun h=>⟨.inr ⟨rfl,by omega,?_⟩,su⟩)
  have:=hf (by omega)
  subst this
  simpa using hm
 refine ite (fun hlt=>?_) (fun hge=>?_)
 ·refine ite (fun h2=>?_) (fun h2=>?_)
  ·have hk1:k<l.length:=by omega
   have hi:l[k]? = some l[k]:=by simp
   refine rix (i:=k) (h.up (w':=u)) hi fun b2 o2 A2=>?_
   refine rload1 (A2.cell 1 rfl) ?_
   refine ite (fun h3=>?_) (fun h3=>?_)
   ·exact⟨.inl rfl,stp⟩
   ·refine rix (i:=k) (h.up (w':=u)) hi fun b4 o4 A4=>?_
    refine rload1 (A4.cell 2 rfl) ?_
    refine ite (fun h5=>?_) (fun h5=>?_)
    ·exact⟨.inl rfl,stp⟩
    ·refine rar (by omega) ⟨rfl,hk1,.inr (by omega),fun y hy=>?_,stp⟩
     rw [List.take_add_one,hi] at hy
     simp only [Option.toList_some,List.mem_append,List.mem_singleton] at hy
     rcases hy with hy|rfl
     ·exact hm y hy
     ·rw [zAO] at h3
      constructor <;> omega
  ·exact fin (by omega)
 ·exact fin (by omega)
theorem zF7{x:RCfg}{im:List UInt8}{c:Nat}{l:List REv}(h:SlF w (.slice a n c) l):
  Sp PP F.qan #[agg x,txt im,.slice a n c] w fun v w'=>(v=.bool true∨(v=.bool false∧EvsS l∧im.length≤400))∧Stp w w':=by
 have q_:=h.len
 obtain rfl:=q_
 refine en TBok rfl ?_
 refine rbx fun b w1 n1 B1=>?_
 refine rld (B:=B1) rfl ?_
 have big:Sp PP F.pv #[.slice a l.length c] w1 fun v w'=>(v=.bool true∨(v=.bool false∧EvsS l))∧Stp w1 w':=zKi h.up
 refine ite (fun h1=>?_) (fun h1=>?_)
 ·exact⟨.inl rfl,stp⟩
 ·refine rld (B:=B1) rfl ?_
  refine ite (fun h2=>?_) (fun h2=>?_)
  ·refine rld (B:=B1) rfl ?_
   refine ite (fun h3=>?_) (fun h3=>?_)
   ·exact⟨.inl rfl,stp⟩
   ·refine ite (fun h4=>?_) (fun h4=>?_)
    ·exact⟨.inl rfl,stp⟩
    ·refine rcall big ?_
     rintro v w2 ⟨rfl|⟨rfl,hs⟩,e2⟩
     ·exact⟨.inl rfl,stp⟩
     ·rw [zAO] at h4
      exact⟨.inr ⟨rfl,hs,by omega⟩,stp⟩
  ·refine ite (fun h4=>?_) (fun h4=>?_)
   ·exact⟨.inl rfl,stp⟩
   ·refine rcall big ?_
    rintro v w2 ⟨rfl|⟨rfl,hs⟩,e2⟩
    ·exact⟨.inl rfl,stp⟩
    ·rw [zAO] at h4
     exact⟨.inr ⟨rfl,hs,by omega⟩,stp⟩
end Go.W
namespace Go.W
open Go Go.Proofs
open Enc (enc)
set_option maxRecDepth 100000
set_option warn.classDefReducibility false
variable {B i j k m n n3:Nat} {P:Program} {R:Nat → Prop} {a a' a3:Option Addr} {g:GrD} {ps:List Int} {q:QyD} {u w w' w1 w2:World}
noncomputable instance:Rd PP E.qg ByteArray:=rdStr (by kernel_rfl) (by kernel_rfl)
noncomputable instance:Rd PP E.q6 Bool:=rdBool (by kernel_rfl) (by kernel_rfl)
noncomputable instance:Rd PP E.qw SV:=rdSl (α:=Int) (e:=E.qa) (by kernel_rfl) (by kernel_rfl)
noncomputable instance:Rd PP E.qs RCfg where
 G _ _:=True
 cells:=by kernel_rfl
 rd:=by
  intro H eH w sp fuel cs x hx
  have q_:=zHj (P:=PP) (t:=E.qs) (fl:=[(E.qa,0,1),(E.qa,1,1),(E.qa,2,1),(E.qa,3,1),(E.qa,4,1)]) (n:=5) (by kernel_rfl) hx
  obtain⟨hl,hf⟩:=q_
  have q_:=zA8 (P:=PP) (α:=Int) hf 0 rfl
  obtain⟨a0,h0,_⟩:=q_
  have q_:=zA8 (P:=PP) (α:=Int) hf 1 rfl
  obtain⟨a1,h1,_⟩:=q_
  have q_:=zA8 (P:=PP) (α:=Int) hf 2 rfl
  obtain⟨a2,h2,_⟩:=q_
  have q_:=zA8 (P:=PP) (α:=Int) hf 3 rfl
  obtain⟨a3,h3,_⟩:=q_
  have q_:=zA8 (P:=PP) (α:=Int) hf 4 rfl
  obtain⟨a4,h4,_⟩:=q_
  refine⟨⟨a0,a1,a2,a3,a4⟩,?_,trivial⟩
  have:=tile h0 (tile h1 (tile h2 (tile h3 (tile h4 (tile0 hl) rfl) rfl) rfl) rfl) rfl
  rw [List.drop_zero] at this
  rw [this];simp [enc]
noncomputable instance:Rd PP E.q1 REv where
 G w y:=∃l:List Int,SlF w y.picks.v l
 cells:=by kernel_rfl
 rd:=by
  intro H eH w sp fuel cs x hx
  have q_:=zHj (P:=PP) (t:=E.q1) (fl:=[(E.q6,0,1),(E.qg,1,1),(E.qw,2,1)]) (n:=3) (by kernel_rfl) hx
  obtain⟨hl,hf⟩:=q_
  have q_:=zA8 (P:=PP) (α:=Bool) hf 0 rfl
  obtain⟨a0,h0,_⟩:=q_
  have q_:=zA8 (P:=PP) (α:=ByteArray) hf 1 rfl
  obtain⟨a1,h1,_⟩:=q_
  have q_:=zA8 (P:=PP) (α:=SV) hf 2 rfl
  obtain⟨a2,h2,g2⟩:=q_
  obtain⟨l,hl2,_⟩:=g2
  refine⟨⟨a0,a1.data.toList,a2⟩,?_,l,hl2⟩
  have:=tile h0 (tile h1 (tile h2 (tile0 hl) rfl) rfl) rfl
  rw [List.drop_zero] at this
  rw [this];simp [enc]
theorem w_tail{H:Type}{t:TypeId}{ts:List TypeId}{d:DataW H}{r:List (DataW H)}{p:Nat→Bool}(h:(DataW.weightsEach P (t::ts) (d::r)).all p=true):(d.weights P t).all p=true∧(DataW.weightsEach P ts r).all p=true:=by
 simpa only [DataW.weightsEach,List.all_append,Bool.and_eq_true] using h
theorem zMb{W:World}{b:Nat}{v:Value}{H:Type}{eH:TypeId×Value→H}{d:DataW H}{ps:List MemPlace}(h:Value.okWide PP W .any b E.qs v)(ht:DataW.Trod eH PP W 0 (fun _=>true) true E.qs v d ps):
  ∃x:RCfg,v=agg x:=by
 obtain⟨fuel,hx⟩:=ht
 have q_:=Rd.rd (P:=PP) (t:=E.qs) (α:=RCfg) hx
 obtain⟨r,hc,_⟩:=q_
 exact⟨r,zMa h (by kernel_rfl) hc⟩
theorem zMd{W:World}{b:Nat}{v:Value}{H:Type}{eH:TypeId×Value→H}{d:DataW H}{ps:List MemPlace}(h:Value.okWide PP W .any b E.qg v)(ht:DataW.Trod eH PP W 0 (fun _=>true) true E.qg v d ps)
  (hw:(d.weights PP E.qg).all (·≤reachBytes)=true):∃f:List UInt8,v=txt f∧f.length≤4611686018427387904:=by
 obtain⟨fuel,hx⟩:=ht
 have q_:=DataW.trod_string (P:=PP) (t:=E.qg) (by kernel_rfl) hx
 obtain⟨s,hc,hxd,_⟩:=q_
 refine⟨s.data.toList,zGq h (by kernel_rfl) hc,?_⟩
 have hd:d=.lit (.string s.data.toList):=congrArg Prod.fst hxd
 rw [hd] at hw
 simp only [DataW.weights,List.all_cons,List.all_nil,Bool.and_true] at hw
 have h8:=of_decide_eq_true hw
 have hrb:reachBytes=140737488351232:=rfl
 rw [hrb] at h8
 omega
theorem zMc{W:World}{b:Nat}{v:Value}{H:Type}{eH:TypeId×Value→H}{d:DataW H}{ps:List MemPlace}(h:Value.okWide PP W .any b E.yd v)(ht:DataW.Trod eH PP W 0 (fun _=>true) true E.yd v d ps):
  ∃a n c,∃l:List REv,v=.slice a n c∧SlF W (.slice a n c) l∧EvsM W l:=by
 obtain⟨fuel,hx⟩:=ht
 have q_:=zFG (P:=PP) (α:=REv) (e:=E.q1) (by kernel_rfl) hx
 obtain⟨a,n,c,l,hc,h1,h2,_⟩:=q_
 exact⟨a,n,c,l,zGq h (by kernel_rfl) hc,h1,h2⟩
theorem zLc{W:World}{b:Nat}{v:Value}{H:Type}{eH:TypeId×Value→H}{d:DataW H}{ps:List MemPlace}(h:Value.okWide PP W .any b E.qw v)(ht:DataW.Trod eH PP W 0 (fun _=>true) true E.qw v d ps):
  ∃a n c,∃l:List Int,v=.slice a n c∧SlF W (.slice a n c) l:=by
 obtain⟨fuel,hx⟩:=ht
 have q_:=zFG (P:=PP) (α:=Int) (e:=E.qa) (by kernel_rfl) hx
 obtain⟨a,n,c,l,hc,h1,h2,_⟩:=q_
 exact⟨a,n,c,l,zGq h (by kernel_rfl) hc,h1⟩
end Go.W
namespace Go.W
open Go Go.Proofs
set_option maxRecDepth 10000
variable {B i j k m n n3:Nat} {P:Program} {R:Nat → Prop} {a a' a3:Option Addr} {g:GrD} {ps:List Int} {q:QyD} {u w w' w1 w2:World}
section
variable {g:GrD} {c:CfD}
theorem zMs(h:Hs):(idsH h).length≤h.length:=List.length_filterMap_le _ _
theorem zLq{s:SvD}(h:SvOk g c s):(idsH s.held).length≤c.slots∧(idsW s.wait).length≤c.queue:=by
 refine⟨?_,?_⟩
 ·have:=zMs s.held
  rw [h.len] at this;exact this
 ·unfold idsW
  rw [List.length_map];exact h.wl
end
end Go.W
namespace Go.W
open Go Go.Proofs
open Enc (enc)
set_option maxRecDepth 10000
variable {B i j k m n n3:Nat} {P:Program} {R:Nat → Prop} {a a' a3:Option Addr} {g:GrD} {ps:List Int} {q:QyD} {u w w' w1 w2:World}
section
variable {R R' R2:Nat→Prop} {B B2:Nat} {u u' w w':World} {bs bt:Nat} {g:GrD} {c:CfD} {s t:SvD}
theorem zHN{x:RCfg}{f:List UInt8}(hf:f.length≤4611686018427387904)(hn:¬(cfgOk x∧∃g,imgOf f=some g)):
  Sp PP F.qp #[agg x,txt f] w fun v w'=>(∃e:Int,v=.tuple #[.pointer none,.int .i64 e]∧e≠0)∧Stp w w':=
 (zBm hf).mono fun v w' ⟨h,e⟩=>⟨by
  rcases h with ⟨_,rfl⟩|⟨_,_,rfl⟩|⟨g,bs,hc,hi,_⟩
  ·exact⟨_,rfl,by decide⟩
  ·exact⟨_,rfl,by decide⟩
  ·exact absurd ⟨hc,g,hi⟩ hn,e⟩
theorem zHO{x:RCfg}{f:List UInt8}(hf:f.length≤4611686018427387904)(hc:cfgOk x)(hi:imgOf f=some g):
  Sp PP F.qp #[agg x,txt f] w fun v w'=>(∃bs,v=.tuple #[.pointer (some ⟨bs,0,none⟩),.int .i64 0]∧SrvP (fun i=>w.heap.size≤i∧i<w'.heap.size) w.heap.size w' bs g (cfOf x) (newS (cfOf x)))∧Stp w w':=
 (zBm hf).mono fun v w' ⟨h,e⟩=>⟨by
  rcases h with ⟨h1,_⟩|⟨_,h1,_⟩|⟨g',bs,_,hi',rfl,S⟩
  ·exact absurd hc h1
  ·rw [hi] at h1;cases h1
  ·rw [hi] at hi';cases hi'
   exact⟨bs,rfl,S⟩,e⟩
theorem zCI(hR':∀i,R' i→gR R u u' i)(f:Fr R u u')(T:SrvP R2 B2 u bt g c t)(hd:∀i,R i→¬R2 i):SrvP R2 B2 u' bt g c t∧∀i,R' i→¬R2 i:=by
 refine⟨T.away f hd,fun i hi h2=>?_⟩
 have h3:=(SrvX.reg T).1 i h2
 have q_:=hR' i hi
 rcases q_ with h1|h1
 ·exact hd i h1 h2
 ·omega
def Sv2 (B B2:Nat) (u0 u:World) (bs bt:Nat) (g:GrD) (c:CfD):Prop:=∃R R2 s,SrvP R B u bs g c s∧SrvP R2 B2 u bt g c s∧(∀i,R i→¬R2 i)∧Fr (fun i=>B≤i) u0 u
theorem SrvP.ok(S:SrvP R B w bs g c s):GrIs g∧CfOk c∧SvOk g c s:=(SrvX.reg S).2
theorem SrvP.frB(S:SrvP R B w bs g c s)(f:Fr R w w'):Fr (fun i=>B≤i) w w':=f.mono fun i _ hi=>((SrvX.reg S).1 i hi).1
theorem zL1(S:SrvP R B w bs g c s):((tickS g c s).2).length≤64:=by
 have q_:=S.ok
 obtain⟨_,hc,h⟩:=q_
 have h1:=zDH (g:=g) (c:=c) (usedS (admitS s.wait s.held).2) (admitS s.wait s.held).2
 have h2:(usedS (admitS s.wait s.held).2).length≤(admitS s.wait s.held).2.length:=zEO _ _
 have h3:=(zHS hc s.wait s.held h).1.len
 have h4:=hc.slots.2
 dsimp only at h3
 show (stepsS g c _ _).2.length≤64
 omega
end
set_option maxHeartbeats 2000000 in
theorem zEm{x:RCfg}{im:List UInt8}(him:im.length≤4611686018427387904){c n' c':Nat}{l:List REv}{pp:List Int}(h:SlF w (.slice a n c) l)(hm:EvsM w l)(hp:SlF w (.slice a' n' c') pp):
  Sp PP F.pn #[agg x,txt im,.slice a n c,.slice a' n' c'] w fun v w'=>v=.bool true∧Stp w w':=by
 have q_:=h.len
 obtain rfl:=q_
 refine en TBok rfl ?_
 refine rbx fun b w1 n1 B1=>?_
 have B1:Bk w1 b (enc x) E.qs:=B1
 refine rldG (B:=B1) rfl rfl ?_
 by_cases hq:cfgOk x∧∃g,imgOf im=some g
 case neg =>
  refine rcall (zHN him hq) ?_
  rintro _ w2 ⟨⟨e,rfl,he⟩,e2⟩
  refine rldG (B:=B1) rfl rfl ?_
  refine rcall (zHN him hq) ?_
  rintro _ w3 ⟨⟨e',rfl,he'⟩,e3⟩
  refine rldG (B:=B1) rfl rfl ?_
  refine rcall (zF7 h.up) ?_
  rintro _ w4 ⟨rfl|⟨rfl,hs,hi⟩,e4⟩
  ·refine rcall zAI ?_
   rintro _ w5 ⟨rfl,e5⟩
   exact⟨rfl,stp⟩
  ·refine ite (fun h1=>?_) (fun h1=>?_)
   ·refine rcall zAI ?_
    rintro _ w5 ⟨rfl,e5⟩
    exact⟨rfl,stp⟩
   ·refine rpnil ?_
    refine rcall zAI ?_
    rintro _ w5 ⟨rfl,e5⟩
    exact⟨rfl,stp⟩
 obtain⟨hc,g,hi⟩:=hq
 refine rcall (zHO him hc hi) ?_
 rintro _ w2 ⟨⟨bs,rfl,S0⟩,e2⟩
 have z2:=e2.e.size
 refine rldG (B:=B1) rfl rfl ?_
 refine rcall (zHO him hc hi) ?_
 rintro _ w3 ⟨⟨bt,rfl,T0⟩,e3⟩
 have z3:=e3.e.size
 refine rldG (B:=B1) rfl rfl ?_
 refine rcall (zF7 h.up) ?_
 rintro _ w4 ⟨rfl|⟨rfl,hs,hi4⟩,e4⟩
 ·refine rcall zAI ?_
  rintro _ w5 ⟨rfl,e5⟩
  exact⟨rfl,stp⟩
 refine ite (fun h1=>?_) (fun h1=>?_)
 ·refine rcall zAI ?_
  rintro _ w5 ⟨rfl,e5⟩
  exact⟨rfl,stp⟩
 refine rpnil ?_
 refine rpnil ?_
 refine ite (fun h=>absurd rfl h) (fun _=>?_)
 refine ite (fun h=>absurd rfl h) (fun _=>?_)
 have z4:=e4.e.size
 refine cnt TBok 14 [8] 13 l.length (fun k u=>Sv2 w1.heap.size w2.heap.size w4 u bs bt g (cfOf x)) rfl rfl ⟨_,_,_,S0.up (w':=w4),T0.up (w':=w4),fun i h1 h2=>by omega,Fr.refl _ _⟩ ?_
 rintro k G u hk ⟨R,R2,s,S,T,hd,fu⟩
 have su:Stw w1 w4 u:=⟨fu⟩
 have zu:=fu.size
 refine ite (fun hlt=>?_) (fun hge=>?_)
 ·have hk1:k<l.length:=by omega
  have hiy:l[k]? = some l[k]:=by simp
  have q_:∃y,y=l[k]:=⟨_,rfl⟩
  obtain⟨y,hy⟩:=q_
  rw [←hy] at hiy
  have hym:y∈l:=by rw [hy];exact List.getElem_mem hk1
  have q_:=hm y hym
  obtain⟨ps,hps⟩:=q_
  have hyf:=(hs.2 y hym).1
  have hl80:=hs.1
  obtain⟨yt,yf,pa,pn,pc⟩:=y
  have hps:SlF w (.slice pa pn pc) ps:=hps
  have hyf:yf.length≤300:=hyf
  cases yt with
  |true =>
   refine rix (i:=k) (h.up (w':=u)) hiy fun b1 o1 A1=>?_
   refine rloadA A1 rfl ?_
   refine ral fun b2 u2 n2 X2=>?_
   refine rsto (B:=X2) (vs:=enc (⟨true,yf,pa,pn,pc⟩:REv)) rfl rfl rfl (Enc.one _) fun u3 B3 f3 _=>?_
   have B3:Bk u3 b2 (enc (⟨true,yf,pa,pn,pc⟩:REv)) E.q1:=B3
   have t3:Stp u u3:=⟨Fr.st (Le.e (a:=u) (b:=u2)) f3 fun i hi=>by subst hi;exact n2.lo⟩
   have z3':=t3.e.size
   have S3:=S.up (w':=u3)
   have T3:=T.up (w':=u3)
   refine rld (B:=B3) rfl ?_
   refine rld (B:=B3) rfl ?_
   have hp1:∀v,Fr R u3 v→SlF v (.slice pa pn pc) ps:=fun v fv=>by
    have t:Stw w1 u3 v:=S3.stw fv (Nat.le_refl _)
    exact SlF.up (w:=w) hps
   refine rcall (zAQ S3 (by omega) hp1) ?_
   rintro v4 u4 ⟨R',O4,hoff,S4',hR',f4⟩
   have t4:Stw w1 u3 u4:=S3.stw f4 (Nat.le_refl _)
   have z4':=f4.size
   have q_:=zCI hR' f4 T3 hd
   obtain⟨T4',hd4⟩:=q_
   have hp2:∀v,Fr R2 u4 v→SlF v (.slice a' n' c') pp:=fun v fv=>by
    have t:Stw w1 u4 v:=T4'.stw fv z2
    exact SlF.up (w:=w) hp
   refine rcall (zAQ T4' (by omega) hp2) ?_
   rintro v5 u5 ⟨R2',O5,hoff5,T5,hR2',f5⟩
   have t5:Stw w1 u4 u5:=T4'.stw f5 z2
   have z5:=f5.size
   have O45:=O4.fr f5 fun b hb1 _ h2=>by
    have:=(SrvX.reg T3).1 b h2
    omega
   have q_:=zCI hR2' f5 S4' fun i h1 h2=>hd4 i h2 h1
   obtain⟨S5,hd5⟩:=q_
   have hl4:=zL1 S3
   have q_:=O45.shape
   obtain⟨a4,c4,rfl⟩:=q_
   have q_:=O5.shape
   obtain⟨a5,c5,rfl⟩:=q_
   refine rcall ((zIv O45.sl O5.sl (by rw [List.length_map];omega)).tt rfl) ?_
   rintro _ u6 ⟨rfl,e6⟩
   refine rar (by omega) ⟨rfl,hk1,R',R2',_,S5.up (w':=u6),T5.up (w':=u6),fun i h1 h2=>hd5 i h2 h1,?_⟩
   exact(((fu.trans (Fr.fr t3.e)).trans (S3.frB f4)).trans ((T4'.frB f5).mono fun i _ hi=>Nat.le_trans z2 hi)).trans (Fr.fr e6.e)
  |false =>
   refine rix (i:=k) (h.up (w':=u)) hiy fun b1 o1 A1=>?_
   refine rloadA A1 rfl ?_
   refine ral fun b2 u2 n2 X2=>?_
   refine rsto (B:=X2) (vs:=enc (⟨false,yf,pa,pn,pc⟩:REv)) rfl rfl rfl (Enc.one _) fun u3 B3 f3 _=>?_
   have B3:Bk u3 b2 (enc (⟨false,yf,pa,pn,pc⟩:REv)) E.q1:=B3
   have t3:Stp u u3:=⟨Fr.st (Le.e (a:=u) (b:=u2)) f3 fun i hi=>by subst hi;exact n2.lo⟩
   have z3':=t3.e.size
   have hb2:u.heap.size≤b2:=n2.lo
   have S3:=S.up (w':=u3)
   have T3:=T.up (w':=u3)
   refine rld (B:=B3) rfl ?_
   refine rld (B:=B3) rfl ?_
   refine rcall (zBd (f:=yf) S3 (by omega) (by omega)) ?_
   rintro _ u4 ⟨rfl,S4',f4⟩
   have t4:Stw w1 u3 u4:=S3.stw f4 (Nat.le_refl _)
   have z4':=f4.size
   have q_:=zCI (R':=gR R u3 u4) (fun i h=>h) f4 T3 hd
   obtain⟨T4',hd4⟩:=q_
   have B4:=B3.fr f4 fun h4=>by
    have:=(SrvX.reg S).1 _ h4
    omega
   refine rld (B:=B4) rfl ?_
   refine rcall (zBd (f:=yf) T4' (by omega) (by omega)) ?_
   rintro _ u5 ⟨rfl,T5,f5⟩
   have t5:Stw w1 u4 u5:=T4'.stw f5 z2
   have q_:=zCI (R':=gR R2 u4 u5) (fun i h=>h) f5 S4' fun i h1 h2=>hd4 i h2 h1
   obtain⟨S5,hd5⟩:=q_
   refine rsne (fun h1=>absurd rfl h1) (fun _=>?_)
   refine rbne (fun h1=>absurd rfl h1) (fun _=>?_)
   refine rar (by omega) ⟨rfl,hk1,_,_,_,S5,T5,fun i h1 h2=>hd5 i h2 h1,?_⟩
   exact((fu.trans (Fr.fr t3.e)).trans (S3.frB f4)).trans ((T4'.frB f5).mono fun i _ hi=>Nat.le_trans z2 hi)
 ·have q_:=S.ok
  obtain⟨_,hcf,hso⟩:=q_
  have hw:=hcf.workers.2
  have hsl:=hcf.slots.2
  have hil:=(zLq hso).1
  refine rcall zAI ?_
  rintro _ v1 ⟨rfl,g1⟩
  refine rcall (zBI (S.up (w':=v1))) ?_
  rintro _ v2 ⟨O2,g2⟩
  refine rcall (zBI (T.up (w':=v2))) ?_
  rintro _ v3 ⟨O3,g3⟩
  have q_:=O2.shape
  obtain⟨a2,c2,rfl⟩:=q_
  have q_:=O3.shape
  obtain⟨a3,c3,rfl⟩:=q_
  refine rcall ((zCT (O2.sl.up (w':=v3)) O3.sl (by simp;omega)).tt rfl) ?_
  rintro _ v4 ⟨rfl,g4⟩
  refine rcall (zC9 (S.up (w':=v4))) ?_
  rintro _ v5 ⟨O5,g5⟩
  refine rcall (zC9 (T.up (w':=v5))) ?_
  rintro _ v6 ⟨O6,g6⟩
  have q_:=O5.shape
  obtain⟨a5,c5,rfl⟩:=q_
  have q_:=O6.shape
  obtain⟨a6,c6,rfl⟩:=q_
  refine rcall ((zCT (O5.sl.up (w':=v6)) O6.sl (by omega)).tt rfl) ?_
  rintro _ v7 ⟨rfl,g7⟩
  exact⟨rfl,stp⟩
end Go.W
