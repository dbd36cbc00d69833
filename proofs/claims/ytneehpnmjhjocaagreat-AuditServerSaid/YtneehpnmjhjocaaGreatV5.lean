/-
  Proved here: a part of the walks and plain laws of this claim (merged by a program of mine).
  Conditions: those that each fact names.
-/
import Derived.Deep.Upon
import Derived.Test.YtneehpnmjhjocaaGreatV4
set_option linter.unusedVariables false
set_option linter.unusedSimpArgs false
namespace Go.W
open Go Go.Proofs
open Enc (enc)
set_option maxRecDepth 10000
variable {B N i j k m n n2 n3:Nat} {P:Program} {R:Nat → Prop} {a a2 a3:Option Addr} {g:GrD} {ps:List Int} {q:QyD} {u u' w w' w1 w2:World}
section
variable {kx:Nat} {R:Nat→Prop} {B:Nat} {w0 w w':World} {bs:Nat} {g:GrD} {c:CfD} {s:SvD} {Ls:Nat→List StD} {K:SrvK} {wt hd:SV} {lw:List RReq} {lh:List RHeld} {lj:List RJob} {RW:Nat→Nat→Prop}
theorem zLf{hs:Hs}{k0:Nat}{a:RHeld}{j:RJob}{o:Option (RqD×Nat)}(hk:k0<hs.length)(H:∀k (h:k<lh.length) (h':k<lj.length),HeldOk kx u g lh[k] lj[k] (hs.getD k none) k)(h:HeldOk kx u g a j o k0):
  ∀k (h:k<(lh.set k0 a).length) (h':k<(lj.set k0 j).length),HeldOk kx u g (lh.set k0 a)[k] (lj.set k0 j)[k] ((hs.set k0 o).getD k none) k:=fun k h1 h2=>by
 rw [zAJ hk]
 by_cases e:k=k0
 ·subst e
  rw [if_pos rfl,List.getElem_set_self,List.getElem_set_self];exact h
 ·rw [if_neg e,List.getElem_set_ne (Ne.symm e),List.getElem_set_ne (Ne.symm e)]
  exact H k (by simpa using h1) (by simpa using h2)
theorem heldsZ{hs:Hs}{k0:Nat}{a:RHeld}{j:RJob}(hk:k0<hs.length)(H:∀k (h:k<lh.length) (h':k<lj.length),HeldOk k0 u g lh[k] lj[k] (hs.getD k none) k)(ha:a.used=false:=by rfl):
  ∀k (h:k<(lh.set k0 a).length) (h':k<(lj.set k0 j).length),HeldOk 1000 u g (lh.set k0 a)[k] (lj.set k0 j)[k] ((hs.set k0 none).getD k none) k:=fun k h1 h2=>by
 rw [zAJ hk]
 by_cases e:k=k0
 ·subst e
  rw [if_pos rfl,List.getElem_set_self,List.getElem_set_self];exact ha
 ·rw [if_neg e,List.getElem_set_ne (Ne.symm e),List.getElem_set_ne (Ne.symm e)]
  have h3:=H k (by simpa using h1) (by simpa using h2)
  cases e2:hs.getD k none with
  |none=>rw [e2] at h3;exact h3
  |some p=>obtain⟨d,i⟩:=p;rw [e2] at h3;exact⟨h3.1,h3.2.1,fun _=>h3.2.2 e⟩
theorem Stos.congr{W pool:Nat}{Ls':Nat→List StD}(T:Stos B w W K pool RW Ls)(h:∀k,k<W→Ls k=Ls' k):Stos B w W K pool RW Ls':=
 ⟨T.dis,fun k hk=>h k hk ▸ T.sto k hk,T.lt⟩
theorem bjD{v:Nat}(h:ownD B (.slice (some ⟨v,0,none⟩) n m) i):i=v:=by have:=h.2.1;cases this;rfl
set_option maxHeartbeats 1000000 in
theorem zCY{k0:Nat}{x:RqD}(S:SrvR k0 R B w bs g c s Ls K wt hd lw lh lj RW)(H:ButS g c.workers s.held k0 Ls)(hu:s.held.getD k0 none=some (x,i))(hB:B≤w.heap.size):
  Sp PP F.qw #[.pointer (some ⟨bs,0,none⟩),.int .i64 (k0:Int)] w fun _ w'=>SrvP (gR R w w') B w' bs g c ⟨s.wait,s.held.set k0 none⟩∧Fr (mutS bs K.bj c.workers RW) w w':=by
 have hk:=(zAE hu).1
 have F0:=S.fz.here
 have hlen:=S.so.len
 have hsl:=S.ci.slots
 have hW:=S.ci.workers
 have hkh:k0<lh.length:=by rw [F0.lhn];exact hk
 have hkj:k0<lj.length:=by rw [F0.ljn];exact hk
 have hus:lh[k0].used=true:=by
  have:=F0.helds k0 hkh hkj
  rw [hu] at this;exact this.1
 have hln:lh.length≤64:=by rw [F0.lhn];omega
 have D:=zIb (i:=(k0:Int)) F0.fh (by omega)
 have hdr:dropH lh (k0:Int)=(lh.set k0 zeroH,0):=by
  unfold dropH
  rw [if_neg (by omega),Int.toNat_natCast,zAu hkh,if_pos hus]
 rw [hdr] at D
 have hbj:=S.reg _ S.rj
 refine en TBok rfl ?_
 refine rld (B:=S.cell) rfl ?_
 refine rcall D ?_
 rintro _ w1 ⟨⟨v',rfl,O1⟩,e1⟩
 have q_:=O1.shape
 obtain⟨a1,c1,rfl⟩:=q_
 refine ite (fun _=>?_) (fun h=>absurd rfl h)
 refine rsto (B:=S.cell) (vs:=[.slice a1 (lh.set k0 zeroH).length c1]) rfl rfl rfl (sv1 _ _ _) fun w2 C2 f2 _=>?_
 have C2:Bk w2 bs (srvL c K wt ⟨a1,(lh.set k0 zeroH).length,c1⟩) E.qk:=C2
 refine rld (B:=C2) rfl ?_
 refine rbuild (cs:=enc zJob) rfl ?_
 have J2:=(S.jobs.up (w':=w1)).fr f2 (fun g _ hg h=>by cases hg;exact S.ne h.symm)
 refine rixO rfl J2 (x:=lj[k0]) (by simp) fun gj hgj _ _=>?_
 refine rstO' rfl zJob J2 hgj hkj rfl fun w3 J3 f3 _=>?_
 have f3:Fr (fun i=>i=K.bj) w2 w3:=f3.mono fun i _ hi=>bjD hi
 have f13:Fr (fun i=>i=bs∨i=K.bj) w1 w3:=(f2.mono fun i _ hi=>.inl hi).trans (f3.mono fun i _ hi=>.inr hi)
 have C3:=C2.fr f3 S.ne
 have Z1:Fz (mutS bs K.bj c.workers RW) (gR R w w1) w1 (SrvF 1000 g c K wt ⟨a1,(lh.set k0 zeroH).length,c1⟩ lw (lh.set k0 zeroH) (lj.set k0 zJob) ⟨s.wait,s.held.set k0 none⟩):=
  ((S.fz1 (w':=w1)).and (S.fzO O1 (Nat.le_refl _))).imp fun u ⟨Fa,Sh⟩ =>
   ⟨Fa.rows,Fa.pos,Fa.words,Fa.wk,Fa.fw,Sh,Fa.lwn,Fa.waits,by simp [Fa.lhn],by simp [Fa.ljn],heldsZ hk Fa.helds⟩
 have m13:Fr (mutS bs K.bj c.workers RW) w1 w3:=f13.mono fun i _ hi=>hi.elim .inl fun h=>.inr (.inl h)
 have z13:=f13.size
 have Z3:Fz (mutS bs K.bj c.workers RW) (gR R w w3) w3 _:=Z1.step m13 (fun _ _ h=>h) (fun i _ h=>h.imp id fun h=>by omega)
 have T3:Stos B w3 c.workers K c.pool RW Ls:=(S.st.up (w':=w1)).away f13 fun k hk i hi h=>by have:=(S.rw k hk i hi).2;omega
 have F3:=Z3.here
 have hwn:K.wk.n=c.workers:=by have:=F3.wk.len;simpa using this
 refine rld (B:=C3) rfl ?_
 refine cnt TBok 35 [7] 35 c.workers (fun j u=>∃RW',Stos B u c.workers K c.pool RW' (fun k=>if k<j then dropS (Ls k) k0 else Ls k)∧GrowR c.workers RW RW' w3.heap.size∧Fr (anyR c.workers RW) w3 u) rfl rfl
  ⟨RW,T3.congr fun k _=>by simp,.refl _,Fr.refl _ _⟩ ?_
 rintro j G u hj ⟨RW',T,GR,f⟩
 have Fu:=Z3 u (f.mono fun i _ h=>.inl (zBt h))
 refine ite (fun hlt=>?_) (fun hge=>?_)
 ·have hja:j<c.workers:=by (try dsimp only at hlt);omega
  refine rix Fu.wk (x:=⟨K.sb j⟩) (by simp [hja]) fun b1 o1 A1=>rload1 (A1.cell0 rfl) ?_
  have Tj:StoP (RW' j) B u (K.sb j) (K.sg j) c.pool (Ls j):=by have:=T.sto j hja;rwa [if_neg (Nat.lt_irrefl _)] at this
  refine rcall (zIe (s:=(k0:Int)) Tj) ?_
  rintro _ u1 ⟨rfl,S1,_,f1⟩
  refine rar (by omega) ⟨rfl,hja,updR RW' j (gR (RW' j) u u1),(T.put hja S1 f1).congr fun k _=>?_,GR.put f.size,GR.fr f hja f1⟩
  unfold updL
  dsimp only
  by_cases h1:k=j
  ·subst h1;rw [if_pos rfl,if_pos (by omega)]
  ·rw [if_neg h1]
   by_cases h2:k<j
   ·rw [if_pos h2,if_pos (by omega)]
   ·rw [if_neg h2,if_neg (by omega)]
 ·have hjw:j=c.workers:=by (try dsimp only at hge);omega
  subst hjw
  have T':Stos B u c.workers K c.pool RW' (wkS g c.workers (s.held.set k0 none)):=T.congr fun k hk2=>by rw [if_pos hk2];exact H.drop hk k
  have nbs:¬anyR c.workers RW bs:=fun⟨k,hk,h⟩=>(S.rw k hk _ h).2.1 rfl
  have nbj:¬anyR c.workers RW K.bj:=fun⟨k,hk,h⟩=>(S.rw k hk _ h).2.2 rfl
  have z1:=Le.size (a:=w) (b:=w1)
  refine⟨⟨K,wt,_,lw,_,_,RW',S.fin (w1:=w3) (by omega) (f.mono fun i _ h=>zBt h) hB (C3.fr f nbs) (J3.fr f fun g _ hg h=>by cases hg;exact nbj h) T' GR (zMZ S.so hu) Z3⟩,?_⟩
  exact((Fr.fr (Le.e (a:=w) (b:=w1))).trans m13).trans (f.mono fun i _ h=>zBt h)
theorem zHa{k0:Nat}{x:RqD}(S:SrvZ R B w bs g c s Ls k0)(H:ButS g c.workers s.held k0 Ls)(hu:s.held.getD k0 none=some (x,i))(hB:B≤w.heap.size):
  Sp PP F.qw #[.pointer (some ⟨bs,0,none⟩),.int .i64 (k0:Int)] w fun _ w'=>SrvP (gR R w w') B w' bs g c ⟨s.wait,s.held.set k0 none⟩∧Fr R w w':=by
 obtain⟨K,wt,hd,lw,lh,lj,RW,S⟩:=S
 exact(zCY S H hu hB).mono fun v w' h=>⟨h.1,h.2.mono fun i _ h=>S.mut h⟩
theorem zMi{lw:List RReq}{l:List RqD}(hl:lw.length=l.length)(h:∀i (h:i<lw.length) (h':i<l.length),lw[i].id=l[i].id)(id:Int):plc lw id=waitAt l id:=
 zFj (f:=fun r:RReq=>some r.id) (f':=fun r:RqD=>some r.id) (id:=id) (fun x=>by simp) (fun x=>by simp) (zG0 hl fun i h1 h2=>by rw [h i h1 h2])
theorem zKJ{h:Hs}(h1:lh.length=h.length)(h2:lj.length=h.length)(H:∀k (h3:k<lh.length) (h':k<lj.length),HeldOk kx w g lh[k] lj[k] (h.getD k none) k)(id:Int):foundAt lh id=heldAt h id:=by
 refine zFj (f:=fun r:RHeld=>if r.used then some r.r.id else none) (f':=fun o=>o.map fun p=>p.1.id) (id:=id) (fun x=>?_) (fun x=>?_) (zG0 h1 fun i h3 h4=>?_)
 ·cases x.used <;> simp
 ·cases x <;> simp
 ·have:=H i h3 (by omega)
  rw [List.getD_eq_getElem?_getD,List.getElem?_eq_getElem h4,Option.getD_some] at this
  cases e:h[i] with
  |none=>rw [e] at this;simp only [HeldOk] at this;simp [this]
  |some p =>
   obtain⟨d,j⟩:=p
   rw [e] at this
   simp [this.1,this.2.1.id]
theorem SrvF.plc(Fa:SrvF kx g c K wt hd lw lh lj s u)(id:Int):plc lw id=waitAt s.wait id:=zMi Fa.lwn (fun i h h'=>(Fa.waits i h h').id) id
theorem SrvF.found(Fa:SrvF kx g c K wt hd lw lh lj s u)(id:Int):foundAt lh id=heldAt s.held id:=zKJ Fa.lhn Fa.ljn Fa.helds id
theorem SrvR.small(S:SrvR kx R B w bs g c s Ls K wt hd lw lh lj RW):lw.length≤1000∧lh.length≤64:=by
 have Fa:=S.fz.here
 have:=S.so.len;have:=S.so.wl;have:=S.ci.slots;have:=S.ci.queue
 rw [Fa.lwn,Fa.lhn];omega
theorem SrvR.waits[L:Le w w1]{s':SvD}{a1:Option Addr}{c1:Nat}{lw':List RReq}(S:SrvR 1000 R B w bs g c s (wkS g c.workers s.held) K wt hd lw lh lj RW)(hB:B≤w.heap.size)(hs:s'.held=s.held)
  (C2:Bk w2 bs (srvL c K ⟨a1,lw'.length,c1⟩ hd) E.qk)(f2:Fr (fun i=>i=bs) w1 w2)(so:SvOk g c s')
  (Z1:Fz (mutS bs K.bj c.workers RW) (gR R w w1) w1 (SrvF 1000 g c K ⟨a1,lw'.length,c1⟩ hd lw' lh lj s')):SrvP (gR R w w2) B w2 bs g c s'∧∀u,Le u w1→Fr R u w2:=by
 have z:=L.e.size
 refine⟨⟨K,⟨a1,lw'.length,c1⟩,hd,lw',lh,lj,RW,?_⟩,fun u L2=>(Fr.fr L2.e).trans (f2.mono fun i _ h=>h ▸ S.rs)⟩
 rw [hs]
 refine S.fin z (f2.mono fun i _ h=>.inl h) hB C2 ?_ ?_ (.refl _) so Z1
 ·exact(S.jobs.up (w':=w1)).fr f2 fun g _ hg h=>by cases hg;exact S.ne h.symm
 ·exact(S.st.up (w':=w1)).away f2 fun k hk i hi h=>(S.rw k hk i hi).2.1 h
theorem SrvP.new[L:Le w w'](S:SrvP R B w bs g c s)(hB:B≤w.heap.size):SrvP (gR R w w') B w' bs g c s∧Fr R w w':=by
 have h:=SrvX.reg S
 refine⟨SrvX.wide (SrvP.up S) (fun i hi=>.inl hi) fun i hi=>?_,Fr.fr L.e⟩
 have:=L.e.size
 rcases hi with hi|hi
 ·have:=h.1 i hi;omega
 ·omega
theorem SrvP.gr[L:Le w w1](S:SrvP (gR R w1 w') B w' bs g c s)(h:w1.heap.size≤w'.heap.size)(hB:B≤w.heap.size):SrvP (gR R w w') B w' bs g c s:=by
 have h0:=SrvX.reg S
 have:=L.e.size
 refine SrvX.wide S (fun i hi=>hi.imp id fun h=>by omega) fun i hi=>?_
 rcases hi with hi|hi
 ·exact h0.1 i (.inl hi)
 ·omega
theorem SrvP.lo(S:SrvP R B w bs g c s):∀i,R i→i<w.heap.size:=fun i hi=>((SrvX.reg S).1 i hi).2
set_option maxHeartbeats 1000000 in
theorem zG9{x:RReq}(S:SrvP R B w0 bs g c s)[L:Le w0 w](hB:B≤w0.heap.size):
  Sp PP F.qe #[.pointer (some ⟨bs,0,none⟩),agg x] w fun v w'=>v=.int .i64 (backS s x.id).2∧SrvP (gR R w0 w') B w' bs g c (backS s x.id).1∧Fr R w w':=by
 have SP:=S
 obtain⟨K,wt,hd,lw,lh,lj,RW,S⟩:=S
 have F0:=S.fz.here
 have hsm:=S.small
 have hpl:=F0.plc x.id
 have hfd:=F0.found x.id
 have ok:=(zJS S.so x.id).1
 have hwn:=F0.fw.len
 refine en TBok rfl ?_
 refine rbx fun b1 w1 n1 B1=>?_
 refine drawR TBok mixed (fun _=>False) (upF 12 0) (by kernel_rfl) fun w2 e2 _=>?_
 refine tld (B:=S.cell) rfl not_false (tld (B:=B1) rfl not_false ?_)
 refine rcall (zJo (id:=x.id) (S.fz.at (w':=w2)).fw (by omega)) ?_
 rintro _ w3 ⟨⟨v',rfl,O3⟩,e3⟩
 refine⟨Fr.fr e3,?_⟩
 have s3:Stp w2 w3:=⟨e3⟩
 unfold takeR at O3 ⊢
 unfold backS at ok ⊢
 rw [hpl] at O3 ⊢
 cases hw:waitAt s.wait x.id with
 |some k =>
  rw [hw] at O3 ok
  have q_:=zKs hw
  obtain⟨hk,hid⟩:=q_
  dsimp only at O3 ok ⊢
  have q_:=O3.shape
  obtain⟨a3,c3,rfl⟩:=q_
  refine rsto (B:=S.cell) (vs:=[.slice a3 (lw.take k++lw.drop (k+1)).length c3]) rfl rfl rfl (sv1 _ _ _) fun w4 C4 f4 _=>?_
  have C4:Bk w4 bs (srvL c K ⟨a3,(lw.take k++lw.drop (k+1)).length,c3⟩ hd) E.qk:=C4
  have hW:=S.waits (w1:=w3) (s':=⟨s.wait.eraseIdx k,s.held⟩) hB rfl C4 f4 ok ?_
  exact⟨rfl,hW.1,hW.2 w inferInstance⟩
  refine((S.fz1 (w':=w3)).and (S.fzO O3 (Le.size (a:=w0) (b:=w2)))).imp fun u ⟨Fa,Sw⟩=>⟨Fa.rows,Fa.pos,Fa.words,Fa.wk,Sw,Fa.fh,?_,fun i h h'=>?_,Fa.lhn,Fa.ljn,Fa.helds⟩
  ·have:=Fa.lwn;simp only [List.length_append,List.length_take,List.length_drop,List.length_eraseIdx];split <;> omega
  ·have hl:=Fa.lwn
   dsimp only at h'
   have hle:s.wait.eraseIdx k=s.wait.take k++s.wait.drop (k+1):=List.eraseIdx_eq_take_drop_succ ..
   simp only [hle,List.getElem_append,List.length_take]
   have hm1:min k lw.length=k:=by omega
   have hm2:min k s.wait.length=k:=by omega
   simp only [hm1,hm2]
   split
   ·simp only [List.getElem_take];exact Fa.waits i (by omega) (by omega)
   ·simp only [List.getElem_drop]
    have:i<(lw.take k++lw.drop (k+1)).length:=h
    simp only [List.length_append,List.length_take,List.length_drop] at this
    exact Fa.waits (k+1+(i - k)) (by omega) (by omega)
 |none =>
  rw [hw] at ok
  dsimp only at ok ⊢
  refine drawR TBok mixed (fun _=>False) (upF 12 0) (by kernel_rfl) fun w4 e4 _=>?_
  refine tld (B:=S.cell) rfl not_false (tld (B:=B1) rfl not_false ?_)
  refine rcall (zEe (id:=x.id) (S.fz.at (w':=w4)).fh (by omega)) ?_
  rintro _ w5 ⟨rfl,e5⟩
  refine⟨e5.e,?_⟩
  rw [hfd]
  cases hh:heldAt s.held x.id with
  |some k =>
   have q_:=zJ3 hh
   obtain⟨y,i,hy,hyid⟩:=q_
   refine rcall (zHa (k0:=k) (SrvX.z (SrvP.up (w':=w5) SP) k) (zLV k) hy (Nat.le_trans hB (Le.size (a:=w0) (b:=w5)))) ?_
   rintro _ w6 ⟨S6,f6⟩
   exact⟨rfl,SrvP.gr (w:=w0) S6 f6.size hB,(Fr.fr (Le.e (a:=w) (b:=w5))).trans f6⟩
  |none =>
   exact⟨rfl,(SrvP.new (w':=w5) SP hB).1,Fr.fr (Le.e (a:=w) (b:=w5))⟩
theorem RqIs.small{d:RqD}(h:RqIs d):d.q.words.length≤8∧∀s∈d.q.words,s.size≤12:=by
 obtain⟨h1,h2,h3⟩:=h
 by_cases h4:d.kind=4
 ·rw [if_pos h4] at h3
  rw [h3];simp [zQy]
 ·rw [if_neg h4] at h3
  rcases h1 with h1|⟨h1,h5⟩
  ·exact absurd h1 h4
  ·by_cases h6:d.kind=3
   ·have:=h5.2.2.2 (by omega)
    exact⟨this.1.2,fun s hs=>(this.2.2.2 s hs).2.2⟩
   ·rw [if_neg h6] at h3
    rw [h3.1];simp
theorem RqO.up{B:Nat}[L:Le w w']{x:RReq}{d:RqD}(h:RqO B w x d):RqO B w' x d:=⟨h.1,h.2.1,h.2.2.1,h.2.2.2.1,h.2.2.2.2.1,h.2.2.2.2.2.1.up,h.2.2.2.2.2.2⟩
theorem RqO.fz{M R:Nat→Prop}{B:Nat}{x:RReq}{d:RqD}(h:RqO B w x d)(hM:∀i,B≤i→i<w.heap.size→R i∧¬M i):Fz M R w fun u=>RqV u x d:=fun u f =>
 ⟨h.1,h.2.1,⟨h.2.2.1,h.2.2.2.1,h.2.2.2.2.1,h.2.2.2.2.2.1.fz hM u f,h.2.2.2.2.2.2.1,h.2.2.2.2.2.2.2⟩⟩
theorem SrvF.off(Fa:SrvF kx g c K wt hd lw lh lj s u):K.xr.off.n=g.n+1:=by
 have:=Fa.rows.off.len
 rw [zBe] at this;exact this
set_option maxHeartbeats 1000000 in
theorem zIa{x:RReq}{d:RqD}(S:SrvP R B w0 bs g c s)[L:Le w0 w](hB:B≤w0.heap.size)(O:RqO w0.heap.size w x d)(hd4:RqIs d):
  Sp PP F.qf #[.pointer (some ⟨bs,0,none⟩),agg x] w fun v w'=>v=.int .i64 (askS g c s d (QyIs d.q g.n)).2∧SrvP (gR R w0 w') B w' bs g c (askS g c s d (QyIs d.q g.n)).1∧Fr R w w':=by
 have SP:=S
 obtain⟨K,wt,hd,lw,lh,lj,RW,S⟩:=S
 have F0:=S.fz.here
 have hsm:=S.small
 have hsml:=hd4.small
 have hidx:x.id=d.id:=O.1
 have hpl:=F0.plc x.id
 have hfd:=F0.found x.id
 rw [hidx] at hpl hfd
 have hoff:=F0.off
 have hn2:=S.gi.ok.n2
 have hask:=ask_ok (x:=d) S.so hd4.2.1
 have q_:∃s' code,askS g c s d (QyIs d.q g.n)=(s',code):=⟨_,_,rfl⟩
 obtain⟨s',code,hA⟩:=q_
 have hA1:¬QyIs d.q g.n→s'=s∧code=180:=fun h=>by
  unfold askS at hA;rw [if_neg h] at hA;cases hA;exact⟨rfl,rfl⟩
 have hA2:QyIs d.q g.n→∀k,heldAt s.held d.id=some k→s'=s∧code=150:=fun h k hk=>by
  unfold askS at hA;rw [if_pos h,hk] at hA;cases hA;exact⟨rfl,rfl⟩
 have hA3:QyIs d.q g.n→heldAt s.held d.id=none→∃L,putR lw c.queue x=(L,code)∧(code=0∧L=lw++[x]∧s'=⟨s.wait++[d],s.held⟩∨code≠0∧s'=s):=fun h hk=>by
  unfold askS at hA
  rw [if_pos h,hk,if_neg (by simp)] at hA
  unfold putR
  rw [hidx,hpl]
  cases hw:waitAt s.wait d.id with
  |some k=>rw [hw] at hA;cases hA;exact⟨[],rfl,.inr ⟨by decide,rfl⟩⟩
  |none =>
   rw [hw,if_neg (by simp)] at hA
   rw [if_neg (by simp)]
   have e:((c.queue:Int)≤(lw.length:Nat))↔c.queue≤s.wait.length:=by rw [F0.lwn];omega
   by_cases hqu:c.queue≤s.wait.length
   ·rw [if_pos hqu] at hA;cases hA;rw [if_pos (e.2 hqu)];exact⟨[],rfl,.inr ⟨by decide,rfl⟩⟩
   ·rw [if_neg hqu] at hA;cases hA;rw [if_neg (fun h=>hqu (e.1 h))];exact⟨_,rfl,.inl ⟨rfl,rfl,rfl⟩⟩
 rw [hA] at hask ⊢
 dsimp only at hask ⊢
 refine en TBok rfl ?_
 refine rbx fun b1 w1 n1 B1=>?_
 refine drawR TBok mixed (fun _=>False) (upF 11 0) (by kernel_rfl) fun w2 e2 _=>?_
 refine tldG (ds:=enc x.q) (B:=B1) rfl (Enc.len _) not_false ?_
 refine tld (B:=S.cell) rfl not_false ?_
 rw [hoff]
 refine rarE (y:=(g.n:Int)) (by push_cast;omega) (by omega) ?_
 have V2:QyV w2 x.q d.q:=((RqO.up (w':=w2) O).v).q
 refine rcall (zEa (n:=(g.n:Int)) V2 (by omega) (fun s hs=>by have:=hsml.2 s hs;omega)) ?_
 rintro _ w3 ⟨hchk,e3⟩
 refine⟨e3.e,?_⟩
 rcases hchk with ⟨hq,rfl⟩|⟨hq,rfl⟩
 case inr =>
  have q_:=hA1 hq
  obtain⟨rfl,rfl⟩:=q_
  refine ite (fun _=>?_) (fun h=>absurd (by first|omega|decide|(dsimp only <;> omega)) h)
  exact⟨rfl,(SrvP.new (w':=w3) SP hB).1,Fr.fr (Le.e (a:=w) (b:=w3))⟩
 refine ite (fun h=>absurd rfl h) (fun _=>?_)
 refine drawR TBok mixed (fun _=>False) (upF 12 0) (by kernel_rfl) fun w4 e4 _=>?_
 refine tld (B:=S.cell) rfl not_false (tld (B:=B1) rfl not_false ?_)
 have D:=zEe (id:=x.id) (S.fz.at (w':=w4)).fh (by omega)
 rw [hidx,hfd] at D
 refine rcall (f:=F.y7) (by rw [hidx];exact D) ?_
 rintro _ w5 ⟨rfl,e5⟩
 refine⟨e5.e,?_⟩
 cases hh:heldAt s.held d.id with
 |some k =>
  have q_:=hA2 hq k hh
  obtain⟨rfl,rfl⟩:=q_
  exact⟨rfl,(SrvP.new (w':=w5) SP hB).1,Fr.fr (Le.e (a:=w) (b:=w5))⟩
 |none =>
  have q_:=hA3 hq hh
  obtain⟨L,hput,hL⟩:=q_
  have hwn:=F0.fw.len
  refine drawR TBok mixed (fun _=>False) (upF 16 0) (by kernel_rfl) fun w6 e6 _=>?_
  refine tld (B:=S.cell) rfl not_false (tld (B:=S.cell) rfl not_false ?_)
  refine tldG (ds:=enc x) (B:=B1) rfl (Enc.len _) not_false ?_
  have D:=zJL (most:=(c.queue:Int)) (x:=x) (S.fz.at (w':=w6)).fw (by omega)
  rw [hput] at D
  refine rcall D ?_
  rintro _ w7 ⟨⟨v',rfl,O7⟩,e7⟩
  refine⟨Fr.fr e7,?_⟩
  have s7:Stp w6 w7:=⟨e7⟩
  rcases hL with ⟨rfl,rfl,rfl⟩|⟨hne,rfl⟩
  case inr =>
   refine ite (fun h=>absurd h hne) (fun _=>?_)
   exact⟨rfl,(SrvP.new (w':=w7) SP hB).1,Fr.fr (Le.e (a:=w) (b:=w7))⟩
  refine ite (fun _=>?_) (fun h=>absurd rfl h)
  dsimp only at O7
  have q_:=O7.shape
  obtain⟨a7,c7,rfl⟩:=q_
  refine rsto (B:=S.cell) (vs:=[.slice a7 (lw++[x]).length c7]) rfl rfl rfl (sv1 _ _ _) fun w8 C8 f8 _=>?_
  have C8:Bk w8 bs (srvL c K ⟨a7,(lw++[x]).length,c7⟩ hd) E.qk:=C8
  have ok:SvOk g c ⟨s.wait++[d],s.held⟩:=by
   rcases hask with ⟨_,_,h3,_⟩|⟨h1,_⟩
   ·exact h3
   ·omega
  have hW:=S.waits (w1:=w7) (s':=⟨s.wait++[d],s.held⟩) hB rfl C8 f8 ok ?_
  exact⟨rfl,hW.1,hW.2 w inferInstance⟩
  have ZO:=(RqO.up (w':=w7) O).fz (M:=mutS bs K.bj c.workers RW) (R:=gR R w0 w7) fun i h1 h2=>⟨.inr ⟨h1,h2⟩,fun h=>by have:=S.reg i (S.mut h);omega⟩
  refine((S.fz1 (w':=w7)).and ((S.fzO O7 (Le.size (a:=w0) (b:=w6))).and ZO)).imp fun u ⟨Fa,Sw,V⟩=>⟨Fa.rows,Fa.pos,Fa.words,Fa.wk,Sw,Fa.fh,?_,fun i h h'=>?_,Fa.lhn,Fa.ljn,Fa.helds⟩
  ·simp [Fa.lwn]
  ·have hl:=Fa.lwn
   simp only [List.getElem_append]
   by_cases hi:i<lw.length
   ·rw [dif_pos hi,dif_pos (by omega)];exact Fa.waits i hi (by omega)
   ·rw [dif_neg hi,dif_neg (by omega)]
    simp only [List.getElem_singleton];exact V
end
section
variable {kx:Nat} {R:Nat→Prop} {B:Nat} {w0 w w':World} {bs:Nat} {g:GrD} {c:CfD} {s:SvD} {Ls:Nat→List StD} {K:SrvK} {wt hd:SV} {lw:List RReq} {lh:List RHeld} {lj:List RJob} {RW:Nat→Nat→Prop}
theorem SrvF.wkn(Fa:SrvF kx g c K wt hd lw lh lj s u):K.wk.n=c.workers:=by have:=Fa.wk.len;simpa using this
theorem zDl(S:SrvP R B w bs g c s):Sp PP F.zo #[.pointer (some ⟨bs,0,none⟩)] w fun v w'=>Own w.heap.size E.qa w' v ((List.range c.workers).map fun k=>(liveW g c.workers s.held k:Int))∧Stp w w':=by
 obtain⟨K,wt,hd,lw,lh,lj,RW,S⟩:=S
 have hW:=S.ci.workers
 have hwn:=S.fz.here.wkn
 refine en TBok rfl ?_
 refine rpnil ?_
 refine rld (B:=S.cell) rfl ?_
 refine cnt1 TBok 13 [5] 3 13 c.workers (fun j v u=>Own w.heap.size E.qa u v ((List.range j).map fun k=>(liveW g c.workers s.held k:Int))∧Stp w u) rfl rfl ⟨Own.nil _ _ _,stp⟩ ?_
 rintro j v G u hj ⟨O,su⟩
 refine ite (fun hlt=>?_) (fun hge=>?_)
 ·have hja:j<c.workers:=by (try dsimp only at hlt);omega
  refine rix (S.fz.at (w':=u)).wk (x:=⟨K.sb j⟩) (by simp [hja]) fun b1 o1 A1=>rload1 (A1.cell0 rfl) ?_
  refine rcall (zIf ((S.st.sto j hja).up (w':=u))) ?_
  rintro _ u1 ⟨rfl,e1⟩
  refine rbs1 ((liveW g c.workers s.held j:Nat):Int) rfl rfl (by decide) fun b2 u2 e2 _ S2=>?_
  refine rapp1 (u:=w) ⟨rfl,rfl⟩ (O.up (w':=u2)) S2 (by simp;omega) fun v3 u3 O3 f3 s3=>?_
  refine rar (by omega) ⟨rfl,hja,?_,stp⟩
  rw [List.range_succ,List.map_append];exact O3
 ·obtain rfl:j=c.workers:=by (try dsimp only at hge);omega
  exact⟨O,su⟩
theorem SrvF.usedH(Fa:SrvF kx g c K wt hd lw lh lj s u):usedH lh=(usedS s.held).map fun k:Nat=>(k:Int):=by
 unfold Go.W.usedH usedAt usedS
 rw [Fa.lhn]
 congr 1
 unfold selN
 refine List.filter_congr fun k hk=>?_
 have hk:=List.mem_range.1 hk
 have h1:k<lh.length:=by rw [Fa.lhn];exact hk
 have:=Fa.helds k h1 (by rw [Fa.ljn];exact hk)
 rw [zAu h1]
 cases e:s.held.getD k none with
 |none=>rw [e] at this;simp only [HeldOk] at this;simp [this]
 |some p=>obtain⟨d,i⟩:=p;rw [e] at this;simp [this.1]
theorem SrvF.free(Fa:SrvF kx g c K wt hd lw lh lj s u):freeAt lh=freeS s.held:=by
 have h1:freeAt lh=(lh.map (·.used)).findIdx? fun b=>!b:=by unfold freeAt;rw [List.findIdx?_map];rfl
 have h2:freeS s.held=(s.held.map (·.isSome)).findIdx? fun b=>!b:=by unfold freeS;rw [List.findIdx?_map];congr 1;funext o;cases o <;> rfl
 rw [h1,h2]
 congr 1
 refine zG0 Fa.lhn fun k h3 h4=>?_
 have:=Fa.helds k h3 (by rw [Fa.ljn];exact h4)
 rw [List.getD_eq_getElem?_getD,List.getElem?_eq_getElem h4,Option.getD_some] at this
 cases e:s.held[k] with
 |none=>rw [e] at this;simpa [HeldOk] using this
 |some p=>obtain⟨d,j⟩:=p;rw [e] at this;simpa using this.1
set_option maxHeartbeats 2000000 in
theorem zGI(S:SrvP R B w bs g c s)(hB:B≤w.heap.size):
  Sp PP F.zc #[.pointer (some ⟨bs,0,none⟩)] w fun _ w'=>SrvP (gR R w w') B w' bs g c ⟨(admitS s.wait s.held).1,(admitS s.wait s.held).2⟩∧Fr R w w':=by
 refine en TBok rfl ?_
 have S0:SrvP (gR R w w) B w bs g c ⟨s.wait,s.held⟩:=SrvX.wide S (fun i hi=>.inl hi) fun i hi=>hi.elim ((SrvX.reg S).1 i) fun h=>by omega
 refine loop0G TBok 8 [2,3,4,5,6,7] (fun i u=>∃l h,l.length=i∧admitS l h=admitS s.wait s.held∧SrvP (gR R w u) B u bs g c ⟨l,h⟩∧Fr R w u) rfl ⟨_,s.wait,s.held,rfl,rfl,S0,Fr.refl _ _⟩ ?_
 rintro i G u ⟨l,h,hi,hadm,S,f⟩
 clear S0
 have z0:=f.size
 have SP:=S
 obtain⟨K,wt,hd,lw,lh,lj,RW,S⟩:=S
 have F0:=S.fz.here
 have hsm:=S.small
 have hlw:=F0.lwn
 have hwtn:=F0.fw.len
 have hbs:=S.reg _ S.rs
 have hbj:=S.reg _ S.rj
 have hfree:=F0.free
 dsimp only at hlw hfree
 refine rld (B:=S.cell) rfl ?_
 refine rcall (zJn F0.fw (by omega)) ?_
 rintro _ u1 ⟨⟨v1,rfl,O1⟩,e1⟩
 have s1:Stp u u1:=⟨e1⟩
 refine ral fun bx u2 n2 X2=>?_
 have hbx:=n2.lo (u:=u)
 have hbx2:=n2.lt
 refine rsto (B:=X2) (vs:=enc (nextR lw).1) rfl rfl rfl (Enc.one _) fun u3 X3 f3 _=>?_
 have X3:Bk u3 bx (enc (nextR lw).1) E.qd:=X3
 have s3:Stp u1 u3:=⟨Fr.st Le.e f3 fun i hi=>by subst hi;exact n2.lo⟩
 clear X2 f3
 refine drawR TBok mixed (fun _=>False) (upF 13 0) (by kernel_rfl) fun u4 e4 _=>?_
 refine tld (B:=S.cell) rfl not_false ?_
 refine tldG (ds:=enc (nextR lw).1) (B:=X3) rfl (Enc.len _) not_false ?_
 refine rcall (zJc (x:=(nextR lw).1) (S.fz.at (w':=u4)).fh (by omega)) ?_
 rintro _ u5 ⟨⟨v5,rfl,O5⟩,e5⟩
 refine⟨e5.e,?_⟩
 have out:admitS l h=(l,h)→SrvP (gR R w u5) B u5 bs g c ⟨(admitS s.wait s.held).1,(admitS s.wait s.held).2⟩∧Fr R w u5:=fun he=>by
  rw [←hadm,he]
  have h1:=Le.size (a:=u) (b:=u5)
  refine⟨SrvX.wide (SrvP.up (w':=u5) SP) (fun i hi=>hi.imp id fun h=>by omega) fun i hi=>?_,f.trans (Fr.fr (Le.e (a:=u) (b:=u5)))⟩
  have h2:=(SrvX.reg SP).1
  rcases hi with hi|hi
  ·have:=h2 i (.inl hi);omega
  ·omega
 cases hl:lw with
 |nil =>
  subst hl
  have hl0:l=[]:=List.eq_nil_of_length_eq_zero (by simpa using hlw.symm)
  subst hl0
  exact out rfl
 |cons x r =>
  cases l with
  |nil=>rw [hl] at hlw;simp at hlw
  |cons d l =>
  rw [hl] at O1 O5 X3
  dsimp only [nextR] at O1 O5 X3 ⊢
  unfold putH at O5 ⊢
  rw [hfree] at O5 ⊢
  cases hf:freeS h with
  |none =>
   dsimp only
   refine ite (fun _=>?_) (fun h=>absurd (by first|omega|decide|(dsimp only <;> omega)) h)
   refine out ?_
   unfold admitS;rw [hf]
  |some k =>
   have q_:=zEy hf
   obtain⟨hk,hn⟩:=q_
   rw [hf] at O5
   dsimp only at O5 ⊢
   refine ite (fun h=>absurd rfl h) (fun _=>?_)
   have hkj:k<lj.length:=by rw [F0.ljn];exact hk
   have hV:Fz (mutS bs K.bj c.workers RW) (gR R w u) u fun u'=>RqV u' x d:=S.fz.imp fun u' Fa=>by
    have:=Fa.waits 0 (by rw [hl];simp) (by simp)
    simp only [hl,List.getElem_cons_zero] at this
    exact this
   have V5:=hV.at (w':=u5)
   have hrok:=S.so.wait d (by simp)
   have ok:=zK5 S.ci S.so hf
   have q_:=O1.shape
   obtain⟨a1,c1,rfl⟩:=q_
   have q_:=O5.shape
   obtain⟨a5,c5,rfl⟩:=q_
   refine rsto (B:=S.cell) (vs:=[.slice a1 r.length c1]) rfl rfl rfl (sv1 _ _ _) fun u6 C6 f6 _=>?_
   have C6:Bk u6 bs (srvL c K ⟨a1,r.length,c1⟩ hd) E.qk:=C6
   refine rsto (B:=C6) (vs:=[.slice a5 (lh.set k ⟨true,x⟩).length c5]) rfl rfl rfl (sv1 _ _ _) fun u7 C7 f7 _=>?_
   have C7:Bk u7 bs (srvL c K ⟨a1,r.length,c1⟩ ⟨a5,(lh.set k ⟨true,x⟩).length,c5⟩) E.qk:=C7
   have f57:Fr (fun i=>i=bs) u5 u7:=f6.trans f7
   have z57:=f57.size
   have z5:=Le.size (a:=u) (b:=u5)
   have z3:=Le.size (a:=u3) (b:=u5)
   have m57:Fr (mutS bs K.bj c.workers RW) u5 u7:=f57.mono fun i _ hi=>.inl hi
   have X7:=(X3.mv (w:=u5)).fr f57 (by omega)
   have J7:=(S.jobs.up (w':=u5)).fr f57 fun g _ hg h=>by cases hg;exact S.ne h.symm
   have T7:=(S.st.up (w':=u5)).away f57 fun k hk i hi h=>(S.rw k hk i hi).2.1 h
   have Z5:=((S.fz1 (w':=u5)).and ((S.fzO (w':=u5) (O1.up (w':=u5)) (Nat.le_refl _)).and (S.fzO O5 (Le.size (a:=u) (b:=u4)))))
   have Z7:Fz (mutS bs K.bj c.workers RW) (gR (gR R w u) u u7) u7 _:=Z5.step m57 (fun _ _ h=>h) fun i _ h=>h.imp id fun h=>by omega
   have hV7:RqV u7 x d:=hV u7 (((Fr.fr (Le.e (a:=u) (b:=u5))).trans m57).mono fun i _ h=>.inl h)
   refine drawR TBok mixed (fun i=>i=K.bj) [0,1,2,3,4,5,6,7,8,9,10,11] (by kernel_rfl) fun u8 e8 _=>?_
   refine tld (B:=C7) rfl (fun h=>S.ne h) ?_
   refine tldG (ds:=enc x.q) (B:=X7) rfl (Enc.len _) (by omega) ?_
   refine rcall (zH7 (g:=g) (q:=d.q) (slot:=(k:Int)) ⟨hV7.q.kind,hV7.q.frm,hV7.q.to⟩ hrok.q.ok) ?_
   rintro v9 u9 ⟨O9,e9⟩
   refine⟨Fr.fr e9.e,?_⟩
   have q_:=O9.shape
   obtain⟨a9,c9,rfl⟩:=q_
   refine tbuild (cs:=enc (⟨⟨a9,(mls g d.q k 0).length,c9⟩,0⟩:RJob)) rfl ?_
   have J9:=J7.up (w':=u9)
   refine tixO rfl J9 (x:=lj[k]) (by simp) fun gj hgj _ _=>?_
   refine rstO' rfl (⟨⟨a9,(mls g d.q k 0).length,c9⟩,0⟩:RJob) J9 hgj hkj rfl fun u10 J10 f10 _=>?_
   have f10:Fr (fun i=>i=K.bj) u9 u10:=f10.mono fun i _ hi=>bjD hi
   refine⟨f10,?_⟩
   have z9:=Le.size (a:=u7) (b:=u9)
   have Z9:=(Z7.step (M':=mutS bs K.bj c.workers RW) (R':=gR (gR R w u) u u9) (w':=u9) (Fr.fr (Le.e (a:=u7) (b:=u9))) (fun _ _ h=>h) (fun i _ h=>h.imp id fun h=>by omega)).and (S.fzO (w':=u9) O9 (by have:=Le.size (a:=u7) (b:=u8);omega))
   have Zn:Fz (mutS bs K.bj c.workers RW) (gR (gR R w u) u u9) u9 (SrvF 1000 g c K ⟨a1,r.length,c1⟩ ⟨a5,(lh.set k ⟨true,x⟩).length,c5⟩ r (lh.set k ⟨true,x⟩) (lj.set k ⟨⟨a9,(mls g d.q k 0).length,c9⟩,0⟩) ⟨l,h.set k (some (d,0))⟩):=
    Z9.imp fun u' ⟨⟨Fa,Sw,Sh⟩,Sm⟩=>by
     have hlw:=Fa.lwn
     refine⟨Fa.rows,Fa.pos,Fa.words,Fa.wk,Sw,Sh,?_,fun i h1 h2=>?_,by simp [Fa.lhn],by simp [Fa.ljn],zLf hk Fa.helds ⟨rfl,?_,fun _=>⟨Sm,rfl⟩⟩⟩
     ·rw [hl] at hlw;simpa using hlw
     ·have:=Fa.waits (i+1) (by rw [hl];simpa using h1) (by simpa using h2)
      simp only [hl,List.getElem_cons_succ] at this
      exact this
     ·have:=Fa.waits 0 (by rw [hl];simp) (by simp)
      simp only [hl,List.getElem_cons_zero] at this
      exact this
   have fin:=S.fin (w1:=u9) (w':=u10) (s':=⟨l,h.set k (some (d,0))⟩) (by omega) (f10.mono fun i _ h=>.inr (.inl h)) (Nat.le_trans hB z0) ((C7.mv (w:=u9)).fr f10 S.ne) J10 (((T7.up (w':=u9)).away f10 fun k hk i hi h=>(S.rw k hk i hi).2.2 h)) (.refl _) ok Zn
   have z10:=f10.size
   have hm:Fr R w u10:=by
    refine f.join (E:=gR R w u) (D:=R) (((Fr.fr (Le.e (a:=u) (b:=u5))).trans (f57.mono fun i _ h=>h ▸ S.rs)).trans ((Fr.fr (Le.e (a:=u7) (b:=u9))).trans (f10.mono fun i _ h=>h ▸ S.rj))) (fun _ _ h=>h) fun i hi h=>h.elim id fun h=>by omega
   refine⟨l.length,by rw [←hi];simp,l,h.set k (some (d,0)),rfl,?_,?_,hm⟩
   ·rw [←hadm]
    conv=>rhs;unfold admitS
    rw [hf]
   ·have e2:wkS g c.workers h=wkS g c.workers (h.set k (some (d,0))):=(zNE hk hn d).symm
    dsimp only at fin
    rw [e2] at fin
    refine SrvX.wide (R:=gR (gR R w u) u u10) ⟨K,_,_,_,_,_,RW,fin⟩ (gR_gR z0 (by omega)) fun i hi=>?_
    ·have h2:=(SrvX.reg SP).1
     rcases hi with hi|hi
     ·have:=h2 i (.inl hi);omega
     ·omega
end
section
variable {kx:Nat} {R:Nat→Prop} {B:Nat} {w0 w w':World} {bs:Nat} {g:GrD} {c:CfD} {s:SvD} {Ls:Nat→List StD} {K:SrvK} {wt hd:SV} {lw:List RReq} {lh:List RHeld} {lj:List RJob} {RW:Nat→Nat→Prop}
theorem zEP{a b:StD}{w:World}:Sp PP F.yv #[agg a,agg b] w fun v w'=>v=.int .i64 (cfS a b)∧Gw w w':=by
 refine en TBok rfl ?_
 refine rbx fun ba w1 n1 B1=>rbx fun bb w2 n2 B2=>?_
 refine drawRE TBok mixed (fun _=>False) (.one 0 (.one 1 (.one 2 (.one 3 (.one 4 (.one 5 (.one 7 (.one 8 (.one 9 (.one 10 (.one 11 (.one 12 (.one 6 (.one 13 (.one 14 (.one 15 (.one 16 .nil))))))))))))))))) (by kernel_rfl) fun w3 e3 g3=>?_
 refine tld (B:=B1) rfl not_false (tld (B:=B2) rfl not_false ?_)
 refine tld (B:=B1) rfl not_false (tld (B:=B2) rfl not_false ?_)
 refine rcall zAc ?_
 rintro v w4 ⟨rfl,rfl⟩
 refine⟨Fr.refl _ _,?_⟩
 refine rcall zAc ?_
 rintro v w5 ⟨rfl,rfl⟩
 refine⟨Fr.refl _ _,?_⟩
 refine rbsN [cmpI a.key.dir b.key.dir,cmpI a.key.v b.key.v] rfl (vs:=[.int .i64 (cmpI a.key.dir b.key.dir),.int .i64 (cmpI a.key.v b.key.v)]) rfl rfl (by decide) fun b7 w7 n7 S7=>⟨n7.e,?_⟩
 refine rcall (zBy S7 (by simp)) ?_
 rintro v w8 ⟨rfl,rfl⟩
 refine⟨Fr.refl _ _,?_⟩
 exact⟨rfl,n1.gw.trans (n2.gw.trans (g3.trans n7.gw))⟩
theorem zJI{l':List StD}{o:Option (RqD×Nat)}(hp:l'.Perm (sts1 g o k))(hs:l'.Pairwise fun a b=>¬cfS b a<0):l'=sts1 g o k:=by
 have M:=zDX g o k
 refine SRis.uniq ?_ M fun x=>hp.mem_iff
 have hnd:l'.Nodup:=hp.nodup_iff.2 M.nodup
 rw [List.nodup_iff_pairwise_ne] at hnd
 refine List.Pairwise.imp_of_mem (fun {a b} ha hb hh=>?_) (hs.and hnd)
 have ha':=hp.mem_iff.1 ha
 have hb':=hp.mem_iff.1 hb
 have hsa:=zBd ha'
 have hsb:=zBd hb'
 refine zB2 (fun hl=>hh.1 ((zGS _ _).2 ?_)) (fun he=>hh.2 (M.inj ha' hb' he.symm))
 unfold lessK at hl;omega
theorem SrvP.lens(S:SrvP R B w bs g c s):∀k,k<c.workers→(wkS g c.workers s.held k).length≤c.pool:=fun k hk=>by
 obtain⟨K,wt,hd,lw,lh,lj,RW,S⟩:=S
 exact(S.st.sto k hk).lt.2.2.2.1
set_option maxHeartbeats 1000000 in
theorem zCC{k0:Nat}(S:SrvP R B w bs g c s)(hk:k0<s.held.length):
  Sp PP F.y6 #[.pointer (some ⟨bs,0,none⟩),.int .i64 (k0:Int)] w fun v w'=>Own w.heap.size E.qg w' v (sts1 g (s.held.getD k0 none) k0)∧Stp w w':=by
 have hlens:=S.lens
 obtain⟨K,wt,hd,lw,lh,lj,RW,S⟩:=S
 have hW:=S.ci.workers
 have hpo:=S.ci.pool
 have hwn:=S.fz.here.wkn
 have hfl:∀j,j≤c.workers→((List.range j).flatMap fun k=>ofS (wkS g c.workers s.held k) (k0:Int)).length≤j*400:=by
  intro j
  induction j with
  |zero=>intro _;simp
  |succ j ih =>
   intro hj
   have h1:=ih (by omega)
   rw [List.range_succ,List.flatMap_append,List.length_append]
   have h2:(ofS (wkS g c.workers s.held j) (k0:Int)).length≤(wkS g c.workers s.held j).length:=List.length_filter_le _ _
   have h3:=hlens j (by omega)
   simp only [List.flatMap_cons,List.flatMap_nil,List.append_nil]
   rw [Nat.add_mul];omega
 refine en TBok rfl ?_
 refine rld (B:=S.cell) rfl ?_
 refine cnt1 TBok 14 [7,8] 5 14 c.workers (fun j v u=>Own w.heap.size E.qg u v ((List.range j).flatMap fun k=>ofS (wkS g c.workers s.held k) (k0:Int))∧Stp w u) rfl rfl ⟨Own.nil _ _ _,stp⟩ ?_
 rintro j v G u hj ⟨O,su⟩
 refine ite (fun hlt=>?_) (fun hge=>?_)
 ·have hja:j<c.workers:=by (try dsimp only at hlt);omega
  refine rix (S.fz.at (w':=u)).wk (x:=⟨K.sb j⟩) (by simp [hja]) fun b1 o1 A1=>rload1 (A1.cell0 rfl) ?_
  refine rcall (zJH (s:=(k0:Int)) ((S.st.sto j hja).up (w':=u))) ?_
  rintro v1 u1 ⟨O1,e1⟩
  have h1:=hfl j hj
  have h2:(ofS (wkS g c.workers s.held j) (k0:Int)).length≤(wkS g c.workers s.held j).length:=List.length_filter_le _ _
  have h3:=hlens j (by omega)
  refine rapp (u:=w) ⟨rfl,rfl⟩ (O.up (w':=u1)) O1.sl (by omega) fun v2 u2 O2 f2 s2=>?_
  refine rar (by omega) ⟨rfl,hja,?_,stp⟩
  rw [List.range_succ,List.flatMap_append]
  simp only [List.flatMap_cons,List.flatMap_nil,List.append_nil]
  exact O2
 ·obtain rfl:j=c.workers:=by (try dsimp only at hge);omega
  have h1:=hfl c.workers (Nat.le_refl _)
  refine rcall (zCq Tryz.sortS (k:=4) (show Agg PP E.qg 4 from inferInstance) rfl cfS zJW (f:=F.qh) rfl (fun x y W=>zEP) O (by omega)) ?_
  rintro r u1 ⟨rfl,l',hp,hs,O1,f1⟩
  have s1:Stw w u u1:=zAw f1
  have hl':=zJI (hp.trans (of_all hk (by omega))) hs
  rw [←hl']
  exact⟨O1,stp⟩
set_option maxHeartbeats 2000000 in
theorem zDn{k0:Nat}{x0:RqD}{C:Nat}{e:TypeId}{n':Nat}(S:SrvR 1000 R B w bs g c s (wkS g c.workers s.held) K wt hd lw lh lj RW)(hB:B≤w.heap.size)(hu:s.held.getD k0 none=some (x0,i))(O:Own C e w (.slice a n n') (sts g x0.q k0 (i+1)))(hC:∀i,R i→i<C):
  Sp PP F.zu #[.pointer (some ⟨bs,0,none⟩),.slice a n n'] w fun v w'=>(∃b Ls RW',v=.bool b∧SrvR 1000 (gR R w w') B w' bs g c s Ls K wt hd lw lh lj RW'∧GrowR c.workers RW RW' w.heap.size∧overS g c (aftS s.held k0 x0 i) = !b∧ButS g c.workers s.held k0 Ls∧(b=true→Ls=wkS g c.workers (aftS s.held k0 x0 i)))∧Fr (anyR c.workers RW) w w':=by
 have q_:=zAE hu
 obtain⟨hk,hm⟩:=q_
 have hlen:=S.so.len
 have hrq:=(S.so.held x0 i hm).1
 have hg2:=S.gi.ok.n2
 have hW:=S.ci.workers
 have hsl:=S.ci.slots
 have hwn:=S.fz.here.wkn
 have hln:=O.sl.len
 have hsm:(sts g x0.q k0 (i+1)).length≤400:=by
  rw [zKp]
  have:=sn_le (dir:=0) hrq.q.ok (i+1)
  have:=sn_le (dir:=1) hrq.q.ok (i+1)
  omega
 have hbs:=S.reg _ S.rs
 have hbj:=S.reg _ S.rj
 have fin:∀{u:World} {RW':Nat→Nat→Prop} {Ls:Nat→List StD},Stos B u c.workers K c.pool RW' Ls→GrowR c.workers RW RW' w.heap.size→Fr (anyR c.workers RW) w u→SrvR 1000 (gR R w u) B u bs g c s Ls K wt hd lw lh lj RW':=fun {u RW' Ls} T GR f=>by
  have nbs:¬anyR c.workers RW bs:=fun⟨k,hk,h⟩=>(S.rw k hk _ h).2.1 rfl
  have nbj:¬anyR c.workers RW K.bj:=fun⟨k,hk,h⟩=>(S.rw k hk _ h).2.2 rfl
  exact S.fin (w1:=w) (Nat.le_refl _) (f.mono fun i _ h=>zBt h) hB (S.cell.fr f nbs) (S.jobs.fr f fun g _ hg h=>by cases hg;exact nbj h) T GR S.so (S.fz1 (w':=w))
 refine en TBok rfl ?_
 refine cnt TBok 12 [4,6,7,8,9] 12 (sts g x0.q k0 (i+1)).length (fun j u=>∃RW' Ls',Stos B u c.workers K c.pool RW' Ls'∧GrowR c.workers RW RW' w.heap.size∧Fr (anyR c.workers RW) w u∧KeepI g c.workers s.held (sts g x0.q k0 (i+1)) j Ls') rfl rfl
  ⟨RW,_,S.st,.refl _,Fr.refl _ _,zLj _⟩ ?_
 rintro j G u hj ⟨RW',Ls',T,GR,f,H⟩
 refine ite (fun hlt=>?_) (fun hge=>?_)
 ·have hja:j<(sts g x0.q k0 (i+1)).length:=by (try dsimp only at hlt);omega
  have q_:∃x,(sts g x0.q k0 (i+1))[j]=x:=⟨_,rfl⟩
  obtain⟨x,hx⟩:=q_
  have hxm:x∈sts g x0.q k0 (i+1):=hx ▸ List.getElem_mem hja
  have hmay:=zHg hrq.q.ok hg2 (by omega) hxm
  have hv:=sts1_v (g:=g) (o:=some (x0,i+1)) (k:=k0) hxm
  have hhome:=zIC (W:=c.workers) (v:=x.key.v) (by omega)
  have q_:∃p:Nat,homW c.workers x.key.v=(p:Int):=⟨(homW c.workers x.key.v).toNat,by omega⟩
  obtain⟨p,hp⟩:=q_
  have hpW:p<c.workers:=by omega
  have Ou:=O.fr f fun b hb _ ⟨k,hk,h⟩=>by have:=hC b (S.rw k hk b h).1;omega
  refine rix Ou.sl (x:=x) (by rw [List.getElem?_eq_getElem hja,hx]) fun b1 o1 A1=>rloadA A1 rfl ?_
  refine ral fun bx u2 n2 X2=>?_
  have hbx:=n2.lo (u:=u)
  refine rsto (B:=X2) (vs:=enc x) rfl rfl rfl (Enc.one _) fun u3 X3 f3 _=>?_
  have X3:Bk u3 bx (enc x) E.qg:=X3
  have s3:Stp u u3:=⟨Fr.st Le.e f3 fun i hi=>by subst hi;exact n2.lo⟩
  clear X2 f3
  have zf:=f.size
  have Cu:=S.cell.fr f fun⟨k,hk,h⟩=>(S.rw k hk _ h).2.1 rfl
  refine drawR TBok mixed (fun _=>False) (upF 14 0) (by kernel_rfl) fun u4 e4 _=>?_
  refine tld (B:=X3) rfl not_false (tld (B:=Cu) rfl not_false ?_)
  refine rcall (zB8 (v:=x.key.v) (W:=c.workers)) ?_
  rintro _ u5 ⟨rfl,rfl⟩
  have e5:homV c.workers x.key.v=.tuple #[.int .i64 (p:Int),.bool true]:=by
   rw [←hp];exact if_pos ⟨hv,by have:=hmay.2.1;omega,hW⟩
  rw [e5]
  refine⟨Fr.refl _ _,?_⟩
  have nD:∀b,b<w.heap.size→¬anyR c.workers RW b→¬anyR c.workers RW' b:=fun b hb hn ⟨k,hk,h⟩=>(GR k hk b h).elim (fun h1=>hn ⟨k,hk,h1⟩) fun h1=>by omega
  refine drawR TBok mixed (anyR c.workers RW') [0,1,2,3,4,5,6,7,8,9] (by kernel_rfl) fun u6 e6 _=>?_
  refine tld (B:=Cu) rfl (nD _ hbs.2 fun⟨k,hk,h⟩=>(S.rw k hk _ h).2.1 rfl) ?_
  refine tixF (l:=(List.range c.workers).map fun k=>(⟨K.sb k⟩:RPtr)) (x:=⟨K.sb p⟩) (fun w' f'=>?_) (by simp [hpW]) fun b2 o2 A2=>tload1F A2 ?_
  ·exact(S.fz w' ((f.join ((Fr.fr (D:=anyR c.workers RW') (Le.e (a:=u) (b:=u6))).trans f') (fun _ _ h=>h) fun i hi ⟨k,hk,h⟩=>(GR k hk i h).elim (fun h1=>⟨k,hk,h1⟩) fun h1=>by omega).mono fun i _ h=>.inl (zBt h))).wk
  refine tldG (ds:=enc x) (B:=X3) rfl (Enc.len _) (fun⟨k,hk,h⟩=>by have:=T.lt k hk _ h;omega) ?_
  refine rcall (zJh (x:=x) ((T.sto p hpW).up (w':=u6))) ?_
  rintro _ u7 ⟨rfl,S7,_,f7⟩
  refine⟨f7.mono fun i _ h=>⟨p,hpW,h⟩,?_⟩
  have T6:=T.up (w':=u6)
  have T7:=T6.put hpW S7 f7
  have z6:=Le.size (a:=u) (b:=u6)
  have GR7:GrowR c.workers RW (updR RW' p (gR (RW' p) u6 u7)) w.heap.size:=GR.put (by omega)
  have f6:Fr (anyR c.workers RW) w u6:=f.trans (Fr.fr (Le.e (a:=u) (b:=u6)))
  have f67:=GR.fr f6 hpW f7
  have q_:=H.put hu hja hx hmay.1 (n:=c.pool) hp
  rcases q_ with ⟨h1,h2,h3⟩|⟨h1,h2⟩
  ·refine ite (fun _=>?_) (fun h=>absurd h1 h)
   have hq:=fin T7 GR7 f67
   have hov:overS g c (aftS s.held k0 x0 i) = !false:=zDO.2 ⟨p,hpW,h3⟩
   have he:updL Ls' p (putS' c.pool (Ls' p) x).1=Ls':=by
    funext k;unfold updL;split
    ·rename_i hkp;rw [h2,hkp]
    ·rfl
   rw [he] at hq
   exact⟨⟨false,Ls',_,rfl,hq,GR7,hov,H.but,fun h=>by cases h⟩,f67⟩
  ·refine ite (fun h=>absurd h h1) (fun _=>?_)
   exact rar (by omega) ⟨rfl,hja,_,_,T7,GR7,f67,h2⟩
 ·have hjl:j=(sts g x0.q k0 (i+1)).length:=by (try dsimp only at hge);omega
  subst hjl
  have he:=H.end hu
  have hq:=fin T GR f
  have hov:overS g c (aftS s.held k0 x0 i) = !true:=by
   show _=false
   rw [←Bool.not_eq_true,zDO]
   rintro⟨k,hk,h1⟩
   have h2:=(T.sto k hk).lt.2.2.2.1
   rw [he,zKt] at h2
   omega
  exact⟨⟨true,Ls',_,rfl,hq,GR,hov,H.but,fun _=>he⟩,f⟩
end
end Go.W
namespace Go.W
open Go
variable {B N i j k m n n2 n3:Nat} {P:Program} {R:Nat → Prop} {a a2 a3:Option Addr} {g:GrD} {ps:List Int} {q:QyD} {u u' w w' w1 w2:World}
theorem zKH{k:Int}{l:List HitD}:(firstK k l).length≤k.toNat∧∀h∈firstK k l,h∈l:=by
 unfold firstK
 split
 ·simp
 ·rename_i hk
  have q_:=Int.eq_ofNat_of_zero_le (show (0:Int)≤k by omega)
  obtain⟨m,rfl⟩:=q_
  rw [zJv]
  refine⟨by simp;omega,fun h hm=>?_⟩
  exact(zK0 l).2.mem_iff.1 (List.mem_of_mem_take hm)
theorem zL1(hg:GrOk g)(hq:QyOk q g.n)(hk:k≤1000){id:Int}(hid:0≤id∧id≤2147483647):
  RepOk (repOf id 0 (doneL g q (sts g q k i) (mls g q k i)).1) (doneL g q (sts g q k i) (mls g q k i)).1.hits:=by
 have hn:=hg.n2
 have hS:∀x∈sts g q k i,0≤x.key.v∧x.key.v<200∧0≤x.d∧x.d<200:=fun x hx=>by
  have h1:=zHg hq hn (by omega) hx
  have h2:=h1.1.1
  unfold mayK at h2
  omega
 have zr:RepOk (repOf id 0 zAn) zAn.hits:=⟨hid,by simp [repOf],by simp [repOf,zAn],by simp [zAn],by simp [repOf],by simp [repOf,zAn],by simp [zAn],by simp [zAn]⟩
 unfold doneL
 split
 ·unfold distL
  split
  ·rename_i m hm
   have h1:=(zHK.1 hm).1
   have q_:=zDL.1 h1
   obtain⟨x,hx,y,hy,_,_,_,rfl⟩:=q_
   have:=hS x hx;have:=hS y hy
   exact⟨hid,by simp [repOf],by simp only [repOf];omega,by simp,by simp [repOf],by simp [repOf],by simp,by simp⟩
  ·exact zr
 split
 ·unfold reachL
  split
  ·exact⟨hid,by simp [repOf],by simp [repOf],by simp,by simp [repOf],by simp [repOf],by simp,by simp⟩
  ·exact zr
 split
 ·rename_i h3
  have hq3:=hq.near h3
  unfold nearL
  split
  ·have hf:=zKH (k:=q.most) (l:=hitsL (placesL g q.words) (sts g q k i))
   refine⟨hid,by simp [repOf],by simp [repOf],by dsimp only;omega,by simp [repOf],fun he=>?_,.inr rfl,fun h hh=>?_⟩
   ·refine⟨rfl,?_⟩
    simpa [repOf] using he
   ·have h1:=hf.2 h hh
    unfold hitsL at h1
    have q_:=List.mem_map.1 h1
    obtain⟨x,hx,rfl⟩:=q_
    have:=hS x (List.mem_filter.1 hx).1
    exact⟨by show 0≤x.key.v;omega,by show x.key.v<200;omega,by show 0≤x.d;omega,by show x.d≤200;omega⟩
  ·exact zr
 ·exact zr
theorem zFH{id code:Int}(hid:0≤id∧id≤2147483647)(hc:0≤code∧code≤1000):RepOk (repOf id code zAn) zAn.hits:=
 ⟨hid,hc,by simp [repOf,zAn],by simp [zAn],fun _=>by simp [repOf,zAn],by simp [repOf,zAn],by simp [zAn],by simp [zAn]⟩
section
variable {g:GrD} {q:QyD}
end
section
variable {g:GrD} {c:CfD}
theorem zK1{h:Hs}(hj:j≠k):(stepS g c h k).1.getD j none=h.getD j none:=by
 have q_:=zFw (g:=g) (c:=c) (h:=h) (k:=k)
 rcases q_ with ⟨_,h1⟩|⟨x2,i2,e2,h1⟩
 ·rw [h1]
 ·have q_:=zAE e2
  obtain⟨hk,_⟩:=q_
  rcases h1 with ⟨_,h2⟩|⟨_,_,h2⟩|⟨_,_,_,h2⟩|⟨_,_,_,h2⟩ <;> rw [h2] <;> dsimp only <;> rw [zAJ hk,if_neg hj]
theorem zLN{h:Hs}(hk:k∈usedS h):∃x i,h.getD k none=some (x,i):=by
 unfold usedS at hk
 have q_:=zF9.1 hk
 obtain⟨_,h1⟩:=q_
 cases e:h.getD k none with
 |none=>rw [e] at h1;cases h1
 |some p=>exact⟨p.1,p.2,rfl⟩
theorem zNC(h:Hs):(usedS h).Nodup:=List.nodup_range.filter _
end
noncomputable def stepR (g:GrD) (c:CfD) (h:Hs) (k:Nat):Option (Int×Int×AnP):=match h.getD k none with
 |none=>none
 |some (x,i) =>
  if overS g c (h.set k (some (x,i+1))) then some (x.id,250,zAn)
  else if (doneL g x.q (sts g x.q k (i+1)) (mls g x.q k (i+1))).2 then some (x.id,0,(doneL g x.q (sts g x.q k (i+1)) (mls g x.q k (i+1))).1)
  else if c.budget≤i+1 then some (x.id,251,zAn) else none
noncomputable def bytR (p:Int×Int×AnP):List UInt8:=repB p.1 p.2.1 p.2.2
section
variable {g:GrD} {c:CfD}
theorem zDT(h:Hs)(k:Nat):(stepS g c h k).2=(stepR g c h k).map bytR∧repIds g c h k=((stepR g c h k).map (·.1)).toList:=by
 unfold repIds stepS stepR
 cases e:h.getD k none with
 |none=>exact⟨rfl,rfl⟩
 |some p =>
  obtain⟨x,i⟩:=p
  dsimp only
  split
  ·exact⟨rfl,rfl⟩
  ·split
   ·exact⟨rfl,rfl⟩
   ·split
    ·exact⟨rfl,rfl⟩
    ·exact⟨rfl,rfl⟩
def TickRep (g:GrD) (c:CfD) (h:Hs) (p:Int×Int×AnP):Prop:=
 ∃x k i,k<h.length∧h.getD k none=some (x,i)∧RqOk g x∧x.id=p.1∧i+1≤c.budget∧k≤1000 ∧
  (p.2=(250,zAn)∨p.2=(251,zAn) ∨
   (doneL g x.q (sts g x.q k (i+1)) (mls g x.q k (i+1))).2=true∧p.2=(0,(doneL g x.q (sts g x.q k (i+1)) (mls g x.q k (i+1))).1))
theorem zMF{l:List RqD}{h:Hs}(hc:CfOk c)(s:SvOk g c ⟨l,h⟩){p:Int×Int×AnP}(hp:stepR g c h k=some p):TickRep g c h p:=by
 unfold stepR at hp
 cases e:h.getD k none with
 |none=>rw [e] at hp;cases hp
 |some q =>
  obtain⟨x,i⟩:=q
  rw [e] at hp
  have q_:=zAE e
  obtain⟨hk,hm⟩:=q_
  have hx:=s.held x i hm
  have hl:=s.len
  have hsl:=hc.slots.2
  dsimp only at hp hl hk
  refine⟨x,k,i,hk,e,hx.1,?_⟩
  split at hp
  ·cases hp;exact⟨rfl,by omega,by omega,.inl rfl⟩
  ·split at hp
   ·rename_i h2
    cases hp;exact⟨rfl,by omega,by omega,.inr (.inr ⟨h2,rfl⟩)⟩
   ·split at hp
    ·cases hp;exact⟨rfl,by omega,by omega,.inr (.inl rfl)⟩
    ·cases hp
theorem TickRep.ok(hg:GrOk g){h:Hs}{p:Int×Int×AnP}(t:TickRep g c h p):RepOk (repOf p.1 p.2.1 p.2.2) p.2.2.hits∧(p.2.1=0∨p.2.1=250∨p.2.1=251):=by
 obtain⟨id,code,a⟩:=p
 obtain⟨x,k,i,hk,e,hr,rfl,_,hk2,h1⟩:=t
 rcases h1 with h1|h1|⟨_,h1⟩
 ·cases h1;exact⟨zFH hr.id (by dsimp only;decide),by simp⟩
 ·cases h1;exact⟨zFH hr.id (by dsimp only;decide),by simp⟩
 ·cases h1;exact⟨zL1 hg hr.q.ok hk2 hr.id,by simp⟩
end
section
variable {g:GrD} {c:CfD} {h:Hs} {k:Nat} {x:RqD} {i:Nat}
theorem zHU(e:h.getD k none=some (x,i))(ho:overS g c (h.set k (some (x,i+1)))=true):stepR g c h k=some (x.id,250,zAn)∧(stepS g c h k).1=h.set k none:=by
 unfold stepR stepS;rw [e];dsimp only;rw [if_pos ho,if_pos ho];exact⟨rfl,rfl⟩
theorem zB4(e:h.getD k none=some (x,i))(ho:overS g c (h.set k (some (x,i+1)))=false)(hd:(doneL g x.q (sts g x.q k (i+1)) (mls g x.q k (i+1))).2=true):
  stepR g c h k=some (x.id,0,(doneL g x.q (sts g x.q k (i+1)) (mls g x.q k (i+1))).1)∧(stepS g c h k).1=h.set k none:=by
 have hn:¬overS g c (h.set k (some (x,i+1)))=true:=by rw [ho];simp
 unfold stepR stepS;rw [e];dsimp only;rw [if_neg hn,if_neg hn,if_pos hd,if_pos hd];exact⟨rfl,rfl⟩
theorem zDU(e:h.getD k none=some (x,i))(ho:overS g c (h.set k (some (x,i+1)))=false)(hd:(doneL g x.q (sts g x.q k (i+1)) (mls g x.q k (i+1))).2=false)(hb:c.budget≤i+1):
  stepR g c h k=some (x.id,251,zAn)∧(stepS g c h k).1=h.set k none:=by
 have hn:¬overS g c (h.set k (some (x,i+1)))=true:=by rw [ho];simp
 have hn2:¬(doneL g x.q (sts g x.q k (i+1)) (mls g x.q k (i+1))).2=true:=by rw [hd];simp
 unfold stepR stepS;rw [e];dsimp only;rw [if_neg hn,if_neg hn,if_neg hn2,if_neg hn2,if_pos hb,if_pos hb];exact⟨rfl,rfl⟩
theorem zDo(e:h.getD k none=some (x,i))(ho:overS g c (h.set k (some (x,i+1)))=false)(hd:(doneL g x.q (sts g x.q k (i+1)) (mls g x.q k (i+1))).2=false)(hb:¬c.budget≤i+1):
  stepR g c h k=none∧(stepS g c h k).1=h.set k (some (x,i+1)):=by
 have hn:¬overS g c (h.set k (some (x,i+1)))=true:=by rw [ho];simp
 have hn2:¬(doneL g x.q (sts g x.q k (i+1)) (mls g x.q k (i+1))).2=true:=by rw [hd];simp
 unfold stepR stepS;rw [e];dsimp only;rw [if_neg hn,if_neg hn,if_neg hn2,if_neg hn2,if_neg hb,if_neg hb];exact⟨rfl,rfl⟩
end
end Go.W
namespace Go.W
open Go Go.Proofs
open Enc (enc)
set_option maxRecDepth 10000
variable {B N i j k m n n2 n3:Nat} {P:Program} {R:Nat → Prop} {a a2 a3:Option Addr} {g:GrD} {ps:List Int} {q:QyD} {u u' w w' w1 w2:World}
section
variable {kx:Nat} {R:Nat→Prop} {B:Nat} {w0 w w':World} {bs:Nat} {g:GrD} {c:CfD} {s:SvD} {Ls:Nat→List StD} {K:SrvK} {wt hd:SV} {lw:List RReq} {lh:List RHeld} {lj:List RJob} {RW:Nat→Nat→Prop}
theorem zHA{hs:Hs}{k0:Nat}{j':RJob}{d:RqD}{i':Nat}(hk:k0<hs.length)(e:hs.getD k0 none=some (d,i))(H:∀k (h:k<lh.length) (h':k<lj.length),HeldOk 1000 u g lh[k] lj[k] (hs.getD k none) k)(h:SlF u j'.mails.v (mls g d.q k0 i')∧j'.steps=i'):
  ∀k (h:k<lh.length) (h':k<(lj.set k0 j').length),HeldOk 1000 u g lh[k] (lj.set k0 j')[k] ((hs.set k0 (some (d,i'))).getD k none) k:=fun k h1 h2=>by
 have h3:=H k h1 (by simpa using h2)
 rw [zAJ hk]
 by_cases e1:k=k0
 ·subst e1
  rw [if_pos rfl,List.getElem_set_self]
  rw [e] at h3
  exact⟨h3.1,h3.2.1,fun _=>h⟩
 ·rw [if_neg e1,List.getElem_set_ne (Ne.symm e1)]
  exact h3
theorem zFm{hs:Hs}{k0:Nat}{j':RJob}(hl:lh.length≤64)(H:∀k (h:k<lh.length) (h':k<lj.length),HeldOk 1000 u g lh[k] lj[k] (hs.getD k none) k):
  ∀k (h:k<lh.length) (h':k<(lj.set k0 j').length),HeldOk k0 u g lh[k] (lj.set k0 j')[k] (hs.getD k none) k:=fun k h1 h2=>by
 have h3:=H k h1 (by simpa using h2)
 cases e2:hs.getD k none with
 |none=>rw [e2] at h3;exact h3
 |some p =>
  obtain⟨d,i⟩:=p
  rw [e2] at h3
  refine⟨h3.1,h3.2.1,fun hne=>?_⟩
  rw [List.getElem_set_ne (Ne.symm hne)]
  exact h3.2.2 (by omega)
def StepT (R : Nat → Prop) (B : Nat) (bs : Nat) (g : GrD) (c : CfD) (s : SvD) (k0 : Nat) (w : World) (v : Value) (w' : World) : Prop :=
  (∃ (y : RepD) (all : Bool), v = .tuple #[agg y, .bool all] ∧
    ((all = true ∧ ∃ p Ls K wt hd lw lh lj RW, stepR g c s.held k0 = some p ∧ y.id = p.1 ∧ y.code = p.2.1 ∧ y.a.found = p.2.2.found ∧ y.a.num = p.2.2.num ∧ Fz (mutS bs K.bj c.workers RW) (gR R w w') w' (fun u => SlF u (.slice y.a.s.a y.a.s.n y.a.s.c) p.2.2.hits) ∧
        SrvR k0 (gR R w w') B w' bs g c s Ls K wt hd lw lh lj RW ∧ ButS g c.workers s.held k0 Ls ∧ (stepS g c s.held k0).1 = s.held.set k0 none) ∨
     (all = false ∧ stepR g c s.held k0 = none ∧ SrvP (gR R w w') B w' bs g c ⟨s.wait, (stepS g c s.held k0).1⟩))) ∧ Fr R w w'
def zRp (id code:Int):RepD:=⟨id,code,⟨false,0,⟨none,0,0⟩⟩⟩
theorem zA8{k0:Nat}{x0:RqD}(hk:k0<s.held.length):ButS g c.workers s.held k0 (wkS g c.workers (aftS s.held k0 x0 i)):=fun k=>⟨zBn ..,fun x hs=>by rw [zAD,zAD,zBp hk hs]⟩
set_option maxHeartbeats 4000000 in
theorem zHb{k0:Nat}{x0:RqD}{c3:Nat}(S:SrvP R B w bs g c s)(hB:B≤w.heap.size)(hu:s.held.getD k0 none=some (x0,i))(h3:SlF w (.slice a3 n3 c3) ps):
  Sp PP F.zp #[.pointer (some ⟨bs,0,none⟩),.int .i64 (k0:Int),.slice a3 n3 c3] w (StepT R B bs g c s k0 w):=by
 have SP:=S
 obtain⟨K,wt,hd,lw,lh,lj,RW,S⟩:=S
 have q_:=zAE hu
 obtain⟨hk,hm⟩:=q_
 have F0:=S.fz.here
 have hlen:=S.so.len
 have hrq:=(S.so.held x0 i hm).1
 have hib:=(S.so.held x0 i hm).2
 have hg2:=S.gi.ok.n2
 have hW:=S.ci.workers
 have hsl:=S.ci.slots
 have hbu:=S.ci.budget
 have hgi:=S.gi
 have hps:=S.ps
 have hkh:k0<lh.length:=by rw [F0.lhn];exact hk
 have hkj:k0<lj.length:=by rw [F0.ljn];exact hk
 have hHd:=F0.helds k0 hkh hkj
 rw [hu] at hHd
 obtain⟨hus,hrv,hjb⟩:=hHd
 have hjb:=hjb (by omega)
 have hsteps:=hjb.2
 have hwn:=F0.wkn
 have hhn:=F0.fh.len
 have hRlt:=SP.lo
 have hmay:∀{j:Nat} {x:StD},x∈sts g x0.q k0 j→mayX x∧x.key.v<g.n∧0≤x.d∧x.d<g.n:=fun {j x} hx=>by
  have:=zHg hrq.q.ok hg2 (by omega) hx
  exact⟨this.1,this.2.1,this.2.2.1,this.2.2.2.1⟩
 have hmm:∀{j:Nat} {x:StD},x∈mls g x0.q k0 j→mayX x∧x.key.v<g.n∧0≤x.d∧x.d<g.n:=fun {j x} hx=>zKc hrq.q.ok hg2 (by omega) hx
 have hsn:∀j,(sts g x0.q k0 j).length≤400:=fun j=>by
  rw [zKp]
  have:=sn_le (dir:=0) hrq.q.ok j
  have:=sn_le (dir:=1) hrq.q.ok j
  omega
 have hmn:∀j,(mls g x0.q k0 j).length≤400:=fun j=>by
  have h1:=hsn (j+1)
  have h2:=(zBT (mls g x0.q k0 j) (sts g x0.q k0 j)).length_eq
  have h4:sts g x0.q k0 (j+1)=insAll (mls g x0.q k0 j) (sts g x0.q k0 j):=rfl
  rw [←h4,List.length_append] at h2;omega
 have hlaw:=zMG (g:=g) (q:=x0.q) (slot:=(k0:Int)) hgi.ok i
 have q_:∃rr,lh[k0]? = some rr:=⟨lh[k0],List.getElem?_eq_getElem hkh⟩
 obtain⟨rr,hrr⟩:=q_
 have q_:∃jj,lj[k0]? = some jj:=⟨lj[k0],List.getElem?_eq_getElem hkj⟩
 obtain⟨jj,hjj⟩:=q_
 have er:lh[k0]=rr:=by rw [List.getElem?_eq_getElem hkh] at hrr;exact Option.some.inj hrr
 have ej:lj[k0]=jj:=by rw [List.getElem?_eq_getElem hkj] at hjj;exact Option.some.inj hjj
 rw [er] at hus hrv
 rw [ej] at hjb hsteps
 have hmailn:jj.mails.n=(mls g x0.q k0 i).length:=SlF.len (a:=jj.mails.a) (c:=jj.mails.c) hjb.1
 have hHd2:Fz (mutS bs K.bj c.workers RW) R w fun u=>RqV u rr.r x0∧SlF u jj.mails.v (mls g x0.q k0 i):=S.fz.imp fun u Fa=>by
  have:=Fa.helds k0 hkh hkj
  rw [hu,er,ej] at this
  exact⟨this.2.1,(this.2.2 (by omega)).1⟩
 have hjbl:=(S.reg _ S.rj).2
 have hbsl:=(S.reg _ S.rs).2
 refine en TBok rfl ?_
 refine ral fun b6 w1 n1 Y1=>?_
 have hb6:=n1.lo (u:=w)
 have hb6l:=n1.lt
 have hrow:=F0.fh.lt (fun h=>by rw [h] at hkh;simp at hkh)
 refine drawRT TBok mixed (fun i=>w.heap.size≤i) (.one 0 (.one 1 (.one 2 (.one 3 (.one 4 (.one 5 (.one 6 (.one 7 (.one 8 (.one 9 (.one 10 (.one 11 (.one 12 (.one 13 (.one 14 (.two 15 (.one 16 (.one 17 (.one 18 .nil))) 16 (.one 15 (.one 17 (.one 18 .nil))))))))))))))))))) (by kernel_rfl) fun w2 e2 _=>?_
 refine tld (B:=S.cell) rfl (by omega) ?_
 refine tix (S.fz.at (w':=w2)).fh hrr fun b o A hb=>tloadA (cs:=enc rr.r) (A.sub 1 8) (Enc.len _) ?_ ?_
 ·obtain⟨b',h1,h2⟩:=hrow
  rw [hb] at h1;cases h1;omega
 refine tld (B:=S.cell) rfl (by omega) ?_
 refine tix (S.jobs.up (w':=w2)).sl hjj fun b o A hb=>tloadA A (Enc.len _) ?_ ?_
 ·cases hb;exact Nat.not_le.2 hjbl
 refine⟨?_,?_⟩
 ·refine ral fun bx w3 n3 X3=>⟨Fr.fr n3.e,?_⟩
  refine ral fun bJ w4 n4 JJ4=>⟨Fr.fr n4.e,?_⟩
  have hbx:=n3.lo (u:=w)
  have hbJ:=n4.lo (u:=w)
  have hbx1:=n3.lo (u:=w1)
  have hbJ1:=n4.lo (u:=w1)
  have hbxj:¬bJ=bx:=by have:=n4.b;have:=n3.lt;omega
  have X4:=X3.mv (w:=w4)
  refine rsto (B:=X4) (vs:=enc rr.r) rfl rfl rfl (Enc.one _) fun w5 X5 f5 _=>?_
  have X5:Bk w5 bx (enc rr.r) E.qd:=X5
  have s5:Stp w1 w5:=⟨Fr.st (Le.e (a:=w1) (b:=w4)) f5 fun i hi=>by omega⟩
  have JJ5:=JJ4.fr f5 hbxj
  refine⟨f5.mono fun i _ hi=>by omega,?_⟩
  refine rsto (B:=JJ5) (vs:=enc jj) rfl rfl rfl (Enc.one _) fun w6 JJ6 f6 _=>?_
  have JJ6:Bk w6 bJ (enc jj) E.qz:=JJ6
  have s6:Stp w1 w6:=⟨Fr.st s5.e f6 fun i hi=>by omega⟩
  have X6:=X5.fr f6 (fun h=>hbxj h.symm)
  refine⟨f6.mono fun i _ hi=>by omega,?_⟩
  clear X4 JJ4 X5 JJ5
  refine rld (B:=X6) rfl ?_
  refine rbuild (cs:=enc (zRp rr.r.id 0)) rfl ?_
  refine ral fun by' w7 n7 Y7=>?_
  have hby:=n7.lo (u:=w)
  have hby6:b6<by':=by have:=n7.b;have:=Le.size (a:=w1) (b:=w6);omega
  refine rsto (B:=Y7) (vs:=enc (zRp rr.r.id 0)) rfl rfl rfl (Enc.one _) fun w8 Y8 f8 _=>?_
  have Y8:Bk w8 by' (enc (zRp rr.r.id 0)) E.qf:=Y8
  have s8:Stp w6 w8:=⟨Fr.st (Le.e (a:=w6) (b:=w7)) f8 fun i hi=>by have:=n7.b;omega⟩
  clear Y7 f8
  have X8:=X6.mv (w:=w8)
  have JJ8:=JJ6.mv (w:=w8)
  refine drawR TBok mixed (fun _=>False) [0,1,2,3,4,5,6,7,9,10,11,12,13,14,15,16,8,17,18,19,20,21,22,23,24] (by kernel_rfl) fun w9 e9 _=>?_
  refine tldG (ds:=enc rr.r.q) (B:=X8) rfl (Enc.len _) not_false ?_
  refine tldG (ds:=enc K.xr) (B:=S.cell) rfl (Enc.len _) not_false ?_
  refine tld (B:=JJ8) rfl not_false (tld (B:=S.cell) rfl not_false ?_)
  refine rcall (zCC (SrvP.up (w':=w9) SP) hk) ?_
  rintro _ w10 ⟨O10,e10⟩
  rw [hu] at O10
  have O10:Own w9.heap.size E.qg w10 _ (sts g x0.q k0 i):=O10
  have q_:=O10.shape
  obtain⟨sa,sc,rfl⟩:=q_
  refine⟨e10.e,?_⟩
  have Fu:=S.fz.at (w':=w10)
  have hV:=(hHd2.at (w':=w10))
  have D:=zEb (W:=c.workers) (xq:=rr.r.q) (S:=sts g x0.q k0 i) (M:=mls g x0.q k0 i) hgi Fu.rows ⟨hV.1.q.kind,hV.1.q.rad⟩ O10.sl hV.2 (h3.up (w':=w10)) hW (zHh i) (fun x hx=>⟨(hmay hx).1,(hmay hx).2.1⟩) (fun x hx=>⟨(hmm hx).1,(hmm hx).2.1⟩) (by have:=hsn i;omega) (hmn i)
  rw [hlaw] at D
  refine rcall D ?_
  rintro _ w11 ⟨⟨v1,v2,rfl,O11,M11⟩,e11⟩
  dsimp only at O11 M11
  refine⟨e11.e,?_⟩
  have q_:=O11.shape
  obtain⟨sa2,sc2,rfl⟩:=q_
  have q_:=M11.shape
  obtain⟨ma2,mc2,rfl⟩:=q_
  refine ite (fun h=>absurd rfl h) (fun _=>?_)
  have z9:=Le.size (a:=w) (b:=w9)
  have z10:=e10.e.size
  have z11:=e11.e.size
  have ly:=(Y8.mv (w:=w9)).lt
  have lq:=(Y1.mv (w:=w9)).lt
  have lx:=(X8.mv (w:=w9)).lt
  have lJ:=(JJ8.mv (w:=w9)).lt
  refine rcall (zDn (S.up (w':=w11)) (Nat.le_trans hB (Le.size (a:=w) (b:=w11))) hu O11 (fun i hi=>by have:=hRlt i hi;omega)) ?_
  rintro _ w12 ⟨⟨b,Ls,RW2,rfl,S2,GR2,hov,hbut,hall⟩,fa12⟩
  have f12:Fr R w11 w12:=fa12.mono fun i _ ⟨k,hk,h⟩=>(S.rw k hk i h).1
  have m12:Fr (mutS bs K.bj c.workers RW) w w12:=(Fr.fr (Le.e (a:=w) (b:=w11))).trans (fa12.mono fun i _ h=>zBt h)
  have hnR:∀{b:Nat},w.heap.size≤b→¬R b:=fun {b} hb h=>by have:=hRlt b h;omega
  have Y12:=(Y8.mv (w:=w11)).fr f12 (hnR hby)
  have Q12:=(Y1.mv (w:=w11)).fr f12 (hnR hb6)
  have X12:=(X8.mv (w:=w11)).fr f12 (hnR hbx)
  have JJ12:=(JJ8.mv (w:=w11)).fr f12 (hnR hbJ)
  have O12:=O11.fr f12 fun b hb _=>hnR (by omega)
  have M12:=M11.fr f12 fun b hb _=>hnR (by omega)
  have z12:=f12.size
  have fR12:Fr R w w12:=(Fr.fr (Le.e (a:=w) (b:=w11))).trans f12
  have hov2:overS g c (s.held.set k0 (some (x0,i+1))) = !b:=hov
  cases b with
  |false =>
   have q_:=zHU hu hov2
   obtain⟨q1,q2⟩:=q_
   refine rsto (B:=Y12) (vs:=[.int .i64 250]) rfl rfl rfl (zAg _) fun w13 Y13 f13 _=>?_
   have Y13:Bk w13 by' (enc (zRp rr.r.id 250)) E.qf:=Y13
   have Q13:=Q12.fr f13 (by omega)
   refine rldG (ds:=enc (zRp rr.r.id 250)) (B:=Y13) rfl (Enc.len _) ?_
   refine rsto (B:=Q13) (vs:=enc (zRp rr.r.id 250)) rfl rfl rfl (Enc.one _) fun w14 Q14 f14 _=>?_
   have Q14:Bk w14 b6 (enc (zRp rr.r.id 250)) E.qf:=Q14
   refine rresG (B:=Q14) rfl ?_
   have f1214:Fr (fun i=>w.heap.size≤i∧i<w9.heap.size) w12 w14:=(f13.mono fun i _ hi=>by omega).trans (f14.mono fun i _ hi=>by omega)
   have fR14:Fr R w w14:=fR12.join f1214 (fun _ _ h=>h) fun i hi h=>by omega
   have z14:=f1214.size
   have SX2:=(S2.away f1214 (fun i hi h=>by rcases h with h|h;exact hnR hi.1 h;omega)).wide (R':=gR R w w14) (fun i hi=>hi.imp id fun h=>by omega) fun i hi=>by
    have:=(SrvX.reg SP).1
    rcases hi with hi|hi
    ·have:=this i hi;omega
    ·omega
   exact⟨⟨zRp rr.r.id 250,true,rfl,.inl ⟨rfl,_,Ls,K,wt,hd,lw,lh,lj,RW2,q1,hrv.id,rfl,rfl,rfl,(fun u _=>SlF.nil u),SX2.loose k0,hbut,q2⟩⟩,fR14⟩
  |true =>
   have hLs:=hall rfl
   subst hLs
   have hreg:=(SrvX.reg SP).1
   have hM2:∀i,mutS bs K.bj c.workers RW2 i→mutS bs K.bj c.workers RW i∨w11.heap.size≤i:=fun i h=>by
    rcases h with h|h|⟨k,hk,h⟩
    ·exact .inl (.inl h)
    ·exact .inl (.inr (.inl h))
    ·exact(GR2 k hk i h).imp (fun h1=>.inr (.inr ⟨k,hk,h1⟩)) id
   have S2:=S2.wide (R':=gR R w9 w12) (fun i hi=>hi.imp id fun h=>by omega) fun i hi=>by
    rcases hi with hi|hi
    ·have:=hreg i hi;omega
    ·omega
   have F2:=S2.fz.here
   have hkj2:k0<lj.length:=by rw [F2.ljn];exact hk
   have hlh:lh.length≤64:=by rw [F2.lhn];omega
   have hnb:∀{b:Nat},w.heap.size≤b→¬b=K.bj:=fun {b} h1 h=>by omega
   have q_:∃nj:RJob,nj=⟨⟨ma2,(mls g x0.q k0 (i+1)).length,mc2⟩,((i+1:Nat):Int)⟩:=⟨_,rfl⟩
   obtain⟨nj,hnj⟩:=q_
   refine drawR TBok mixed (fun i=>i=K.bj) [0,1,2,3,4,5,6,7,8,9,10,11] (by kernel_rfl) fun w13 e13 _=>?_
   refine tld (B:=S2.cell) rfl (fun h=>S2.ne h) ?_
   refine tld (B:=JJ12) rfl (hnb hbJ) ?_
   refine rarE (y:=((i+1:Nat):Int)) (by rw [hsteps];push_cast;rfl) (by omega) ?_
   refine tbuild (cs:=enc nj) (by rw [hnj];rfl) ?_
   have J13:=S2.jobs.up (w':=w13)
   refine tixO rfl J13 (x:=lj[k0]) (by simp) fun gj hgj _ _=>?_
   refine rstO' rfl nj J13 hgj hkj rfl fun w14 J14 f14 _=>?_
   have f14:Fr (fun i=>i=K.bj) w13 w14:=f14.mono fun i _ hi=>bjD hi
   refine⟨f14,?_⟩
   have Y14:=(Y12.mv (w:=w13)).fr f14 (hnb hby)
   have Q14:=(Q12.mv (w:=w13)).fr f14 (hnb hb6)
   have X14:=(X12.mv (w:=w13)).fr f14 (hnb hbx)
   have JJ14:=(JJ12.mv (w:=w13)).fr f14 (hnb hbJ)
   have C14:=(S2.cell.mv (w:=w13)).fr f14 S2.ne
   have f1214:Fr (fun i=>i=K.bj) w12 w14:=(Fr.fr (Le.e (a:=w12) (b:=w13))).trans f14
   have m1214:Fr (mutS bs K.bj c.workers RW2) w12 w14:=f1214.mono fun i _ h=>.inr (.inl h)
   have O14:SlF w14 (.slice sa2 (sts g x0.q k0 (i+1)).length sc2) (sts g x0.q k0 (i+1)):=by
    by_cases hl:sts g x0.q k0 (i+1)=[]
    ·rw [hl];exact SlF.nil' _ _ _
    ·have q_:=O11.lt hl
     obtain⟨gq,g1,g2,g3⟩:=q_
     exact O12.sl.fr f1214 fun b hb h=>by rw [g1] at hb;cases hb;omega
   have M14:SlF w14 (.slice ma2 (mls g x0.q k0 (i+1)).length mc2) (mls g x0.q k0 (i+1)):=by
    by_cases hl:mls g x0.q k0 (i+1)=[]
    ·rw [hl];exact SlF.nil' _ _ _
    ·have q_:=M11.lt hl
     obtain⟨gq,g1,g2,g3⟩:=q_
     exact M12.sl.fr f1214 fun b hb h=>by rw [g1] at hb;cases hb;omega
   have T14:=S2.st.away f1214 fun k hk i hi h=>(S2.rw k hk i hi).2.2 h
   have F14:=S2.fz w14 (m1214.mono fun i _ h=>.inl h)
   have hV14:RqV w14 rr.r x0:=(hHd2 w14 ((m12.trans (f1214.mono fun i _ h=>.inr (.inl h))).mono fun i _ h=>.inl h)).1
   have z14:=f1214.size
   have hwn2:=F2.words.len
   have hBw:B≤w12.heap.size:=by omega
   have wide:∀{u:World},w14.heap.size≤u.heap.size→(∀i,gR (gR R w9 w12) w12 w14 i→gR R w u i)∧∀i,gR R w u i→B≤i∧i<u.heap.size:=fun {u} hz=>by
    refine⟨fun i hi=>?_,fun i hi=>?_⟩
    ·rcases hi with (hi|hi)|hi
     ·exact .inl hi
     ·exact .inr (by omega)
     ·exact .inr (by omega)
    ·rcases hi with hi|hi
     ·have:=hreg i hi;omega
     ·omega
   have apart:∀i,(w.heap.size≤i∧i<w9.heap.size)∨w14.heap.size≤i→¬gR (gR R w9 w12) w12 w14 i:=fun i h hi=>by
    rcases hi with (hi|hi)|hi
    ·have:=hRlt i hi;omega
    ·omega
    ·omega
   have fR14:Fr R w w14:=fR12.trans (f1214.mono fun i _ h=>h ▸ S.rj)
   have mF:∀{u:World},Fr (fun i=>(w.heap.size≤i∧i<w9.heap.size)∨w14.heap.size≤i) w14 u→Fr R w u:=fun {u} f=>fR14.join f (fun _ _ h=>h) fun i hi h=>by omega
   have mZ:∀{u:World},Fr (fun i=>(w.heap.size≤i∧i<w9.heap.size)∨w14.heap.size≤i) w14 u→SrvR k0 (gR R w u) B u bs g c s (wkS g c.workers (aftS s.held k0 x0 i)) K wt hd lw lh (lj.set k0 nj) RW2:=fun {u} f =>
    ((S2.fin (w1:=w12) (w':=w14) (kx':=k0) (s':=s) (Ls':=wkS g c.workers (aftS s.held k0 x0 i)) (Nat.le_refl _) m1214 hBw C14 J14 T14 (.refl _) S2.so
     ((S2.fz1 (w':=w12)).imp fun u Fa=>⟨Fa.rows,Fa.pos,Fa.words,Fa.wk,Fa.fw,Fa.fh,Fa.lwn,Fa.waits,Fa.lhn,by simp [Fa.ljn],zFm hlh Fa.helds⟩)).away f apart).wide (wide f.size).1 (wide f.size).2
   have Zm:Fz (mutS bs K.bj c.workers RW2) (gR (gR R w9 w12) w12 w12) w12 fun u=>SlF u (.slice ma2 (mls g x0.q k0 (i+1)).length mc2) (mls g x0.q k0 (i+1)):=
    M11.fzB M12.sl fun i h1 h2=>⟨.inl (.inr (by omega)),fun h=>by
     have q_:=hM2 i h
     rcases q_ with h4|h4
     ·have:=hRlt i (S.mut h4);omega
     ·omega⟩
   have mP:∀{u:World},Fr (fun i=>(w.heap.size≤i∧i<w9.heap.size)∨w14.heap.size≤i) w14 u→SvOk g c ⟨s.wait,aftS s.held k0 x0 i⟩→SrvP (gR R w u) B u bs g c ⟨s.wait,aftS s.held k0 x0 i⟩:=fun {u} f hok =>
    ⟨K,wt,hd,lw,lh,lj.set k0 nj,RW2,((S2.fin (w1:=w12) (w':=w14) (kx':=1000) (s':=⟨s.wait,aftS s.held k0 x0 i⟩) (Ls':=wkS g c.workers (aftS s.held k0 x0 i)) (Nat.le_refl _) m1214 hBw C14 J14 T14 (.refl _) hok
     (((S2.fz1 (w':=w12)).and Zm).imp fun u ⟨Fa,Sm⟩=>⟨Fa.rows,Fa.pos,Fa.words,Fa.wk,Fa.fw,Fa.fh,Fa.lwn,Fa.waits,by simp [Fa.lhn],by simp [Fa.ljn],zHA hk hu Fa.helds ⟨by rw [hnj];exact Sm,by rw [hnj]⟩⟩)).away f apart).wide (wide f.size).1 (wide f.size).2⟩
   clear wide Zm
   have hok:=(zHd k0 S.so).1
   have q_:∃an,an=(doneL g x0.q (sts g x0.q k0 (i+1)) (mls g x0.q k0 (i+1))).1:=⟨_,rfl⟩
   obtain⟨an,han⟩:=q_
   have q_:∃dn,dn=(doneL g x0.q (sts g x0.q k0 (i+1)) (mls g x0.q k0 (i+1))).2:=⟨_,rfl⟩
   obtain⟨dn,hdn⟩:=q_
   have DD:∀{u:World},Le w14 u→Sp PP F.yf #[agg rr.r.q,.slice K.ws.a K.ws.n K.ws.c,.slice sa2 (sts g x0.q k0 (i+1)).length sc2,.slice ma2 (mls g x0.q k0 (i+1)).length mc2] u fun v w'=>(∃v1,v=.tuple #[v1,.bool dn]∧AnsO u.heap.size w' v1 an)∧Stp u w':=fun {u} L=>by
    have D:=zEH (hV14.q.up (w':=u)) hrq.q.ok hgi (F14.words.up (w':=u)) (F14.pos.up (w':=u)) (by omega) (O14.up (w':=u)) (by have:=hsn (i+1);omega) (fun x hx=>by have:=hmay hx;omega) (M14.up (w':=u)) (by have:=hmn (i+1);omega)
    rw [←han,←hdn] at D
    exact D
   have lbs:bs<w14.heap.size:=by omega
   have lbx:bx<w14.heap.size:=by omega
   have lbJ:bJ<w14.heap.size:=by omega
   refine drawRT TBok mixed (fun i=>w14.heap.size≤i) (.one 0 (.one 1 (.one 2 (.one 3 (.one 4 (.one 5 (.one 6 (.one 7 (.two 8 (.one 9 (.one 10 (.one 11 (.one 12 (.one 13 (.one 14 .nil)))))) 12 (.one 8 (.one 9 (.one 10 (.one 11 (.one 13 (.one 14 .nil))))))))))))))) (by kernel_rfl) fun w15 e15 _=>?_
   refine tldG (ds:=enc rr.r.q) (B:=X14) rfl (Enc.len _) (by omega) ?_
   refine tld (B:=C14) rfl (by omega) ?_
   refine⟨?_,?_⟩
   ·refine rcall (DD (u:=w15) inferInstance) ?_
    rintro _ w16 ⟨⟨v1,rfl,ax,rfl,ha1,ha2,OA⟩,e16⟩
    refine⟨Fr.fr e16.e,?_⟩
    refine ral fun ba w17 n17 A17=>⟨Fr.fr n17.e,?_⟩
    have hba:=n17.lo (u:=w14)
    refine rsto (B:=A17) (vs:=enc ax) rfl rfl rfl (Enc.one _) fun w18 A18 f18 _=>?_
    have A18:Bk w18 ba (enc ax) E.qi:=A18
    refine⟨f18.mono fun i _ h=>by omega,?_⟩
    have s18:Stp w14 w18:=⟨Fr.st (Le.e (a:=w14) (b:=w17)) f18 fun i h=>by omega⟩
    have hn17:=n17.b
    have OA18:=((OA.up (w':=w17)).frc f18 A17 (by decide)).mono (B':=w14.heap.size) (Le.size (a:=w14) (b:=w15))
    have Y18:=Y14.mv (w:=w18)
    have Q18:=Q14.mv (w:=w18)
    have z18:=Le.size (a:=w14) (b:=w18)
    have fl18:Fr (fun i=>(w.heap.size≤i∧i<w9.heap.size)∨w14.heap.size≤i) w14 w18:=Fr.fr (Le.e (a:=w14) (b:=w18))
    cases dn with
    |true =>
     have q_:=zB4 hu hov2 hdn.symm
     obtain⟨q1,q2⟩:=q_
     rw [←han] at q1
     refine rldG (ds:=enc ax) (B:=A18) rfl (Enc.len _) ?_
     refine rsto (B:=Y18) (vs:=enc ax) rfl rfl rfl (Enc.one _) fun w19 Y19 f19 _=>?_
     have Y19:Bk w19 by' (enc (⟨rr.r.id,0,ax⟩:RepD)) E.qf:=Y19
     have Q19:=Q18.fr f19 (by omega)
     refine rldG (ds:=enc (⟨rr.r.id,0,ax⟩:RepD)) (B:=Y19) rfl (Enc.len _) ?_
     refine rsto (B:=Q19) (vs:=enc (⟨rr.r.id,0,ax⟩:RepD)) rfl rfl rfl (Enc.one _) fun w20 Q20 f20 _=>?_
     have Q20:Bk w20 b6 (enc (⟨rr.r.id,0,ax⟩:RepD)) E.qf:=Q20
     refine rresG (B:=Q20) rfl ?_
     have fl:=(fl18.trans (f19.mono fun i _ h=>.inl (by omega))).trans (f20.mono fun i _ h=>.inl (by omega))
     have OA20:=((OA18.fr f19 fun b hb _ h=>by omega).fr f20 fun b hb _ h=>by omega)
     have SZ:=mZ fl
     exact⟨⟨⟨rr.r.id,0,ax⟩,true,rfl,.inl ⟨rfl,_,_,K,wt,hd,lw,lh,_,RW2,q1,hrv.id,rfl,ha1,ha2,OA20.fz (fun i h1 h2=>⟨.inr ⟨by omega,h2⟩,fun h=>by have:=(S2.reg i (S2.mut h)).2;omega⟩),SZ,zA8 hk,q2⟩⟩,mF fl⟩
    |false =>
     refine drawR TBok mixed (fun _=>False) (upF 10 0) (by kernel_rfl) fun w19 e19 _=>?_
     refine tld (B:=JJ14) rfl not_false ?_
     refine rarE (y:=((i+1:Nat):Int)) (by rw [hsteps];push_cast;rfl) (by omega) ?_
     refine tld (B:=C14) rfl not_false ?_
     have Y19:=Y18.mv (w:=w19)
     have Q19:=Q18.mv (w:=w19)
     have fl19:=fl18.trans (Fr.fr (Le.e (a:=w18) (b:=w19)))
     refine ite (fun hbd=>?_) (fun hbd=>?_)
     ·have q_:=zDU hu hov2 hdn.symm (by omega)
      obtain⟨q1,q2⟩:=q_
      refine rsto (B:=Y19) (vs:=[.int .i64 251]) rfl rfl rfl (zAg _) fun w20 Y20 f20 _=>?_
      have Y20:Bk w20 by' (enc (zRp rr.r.id 251)) E.qf:=Y20
      have Q20:=Q19.fr f20 (by omega)
      refine rldG (ds:=enc (zRp rr.r.id 251)) (B:=Y20) rfl (Enc.len _) ?_
      refine rsto (B:=Q20) (vs:=enc (zRp rr.r.id 251)) rfl rfl rfl (Enc.one _) fun w21 Q21 f21 _=>?_
      have Q21:Bk w21 b6 (enc (zRp rr.r.id 251)) E.qf:=Q21
      refine rresG (B:=Q21) rfl ?_
      have fl:=(fl19.trans (f20.mono fun i _ h=>.inl (by omega))).trans (f21.mono fun i _ h=>.inl (by omega))
      exact⟨⟨zRp rr.r.id 251,true,rfl,.inl ⟨rfl,_,_,K,wt,hd,lw,lh,_,RW2,q1,hrv.id,rfl,rfl,rfl,(fun u _=>SlF.nil u),mZ fl,zA8 hk,q2⟩⟩,mF fl⟩
     ·have q_:=zDo hu hov2 hdn.symm (by omega)
      obtain⟨q1,q2⟩:=q_
      refine rldG (ds:=enc (zRp rr.r.id 0)) (B:=Y19) rfl (Enc.len _) ?_
      refine rsto (B:=Q19) (vs:=enc (zRp rr.r.id 0)) rfl rfl rfl (Enc.one _) fun w20 Q20 f20 _=>?_
      have Q20:Bk w20 b6 (enc (zRp rr.r.id 0)) E.qf:=Q20
      refine rresG (B:=Q20) rfl ?_
      have fl:=fl19.trans (f20.mono fun i _ h=>.inl (by omega))
      rw [q2] at hok
      have q3:=mP fl hok
      rw [show aftS s.held k0 x0 i=(stepS g c s.held k0).1 from q2.symm] at q3
      exact⟨⟨zRp rr.r.id 0,false,rfl,.inr ⟨rfl,q1,q3⟩⟩,mF fl⟩
   ·refine ral fun ba w16 n16 A16=>⟨Fr.fr n16.e,?_⟩
    have hba:=n16.lo (u:=w14)
    refine rcall (DD (u:=w16) inferInstance) ?_
    rintro _ w17 ⟨⟨v1,rfl,ax,rfl,ha1,ha2,OA⟩,e17⟩
    refine⟨Fr.fr e17.e,?_⟩
    refine rsto (B:=A16) (vs:=enc ax) rfl rfl rfl (Enc.one _) fun w18 A18 f18 _=>?_
    have A18:Bk w18 ba (enc ax) E.qi:=A18
    refine⟨f18.mono fun i _ h=>by omega,?_⟩
    have s18:Stp w14 w18:=⟨Fr.st (Le.e (a:=w14) (b:=w17)) f18 fun i h=>by omega⟩
    have hn16:=n16.lt
    have OA18:=(OA.fr f18 fun b hb _ h=>by omega).mono (B':=w14.heap.size) (Le.size (a:=w14) (b:=w16))
    have Y18:=Y14.mv (w:=w18)
    have Q18:=Q14.mv (w:=w18)
    have z18:=Le.size (a:=w14) (b:=w18)
    have fl18:Fr (fun i=>(w.heap.size≤i∧i<w9.heap.size)∨w14.heap.size≤i) w14 w18:=Fr.fr (Le.e (a:=w14) (b:=w18))
    cases dn with
    |true =>
     have q_:=zB4 hu hov2 hdn.symm
     obtain⟨q1,q2⟩:=q_
     rw [←han] at q1
     refine rldG (ds:=enc ax) (B:=A18) rfl (Enc.len _) ?_
     refine rsto (B:=Y18) (vs:=enc ax) rfl rfl rfl (Enc.one _) fun w19 Y19 f19 _=>?_
     have Y19:Bk w19 by' (enc (⟨rr.r.id,0,ax⟩:RepD)) E.qf:=Y19
     have Q19:=Q18.fr f19 (by omega)
     refine rldG (ds:=enc (⟨rr.r.id,0,ax⟩:RepD)) (B:=Y19) rfl (Enc.len _) ?_
     refine rsto (B:=Q19) (vs:=enc (⟨rr.r.id,0,ax⟩:RepD)) rfl rfl rfl (Enc.one _) fun w20 Q20 f20 _=>?_
     have Q20:Bk w20 b6 (enc (⟨rr.r.id,0,ax⟩:RepD)) E.qf:=Q20
     refine rresG (B:=Q20) rfl ?_
     have fl:=(fl18.trans (f19.mono fun i _ h=>.inl (by omega))).trans (f20.mono fun i _ h=>.inl (by omega))
     have OA20:=((OA18.fr f19 fun b hb _ h=>by omega).fr f20 fun b hb _ h=>by omega)
     have SZ:=mZ fl
     exact⟨⟨⟨rr.r.id,0,ax⟩,true,rfl,.inl ⟨rfl,_,_,K,wt,hd,lw,lh,_,RW2,q1,hrv.id,rfl,ha1,ha2,OA20.fz (fun i h1 h2=>⟨.inr ⟨by omega,h2⟩,fun h=>by have:=(S2.reg i (S2.mut h)).2;omega⟩),SZ,zA8 hk,q2⟩⟩,mF fl⟩
    |false =>
     refine drawR TBok mixed (fun _=>False) (upF 10 0) (by kernel_rfl) fun w19 e19 _=>?_
     refine tld (B:=JJ14) rfl not_false ?_
     refine rarE (y:=((i+1:Nat):Int)) (by rw [hsteps];push_cast;rfl) (by omega) ?_
     refine tld (B:=C14) rfl not_false ?_
     have Y19:=Y18.mv (w:=w19)
     have Q19:=Q18.mv (w:=w19)
     have fl19:=fl18.trans (Fr.fr (Le.e (a:=w18) (b:=w19)))
     refine ite (fun hbd=>?_) (fun hbd=>?_)
     ·have q_:=zDU hu hov2 hdn.symm (by omega)
      obtain⟨q1,q2⟩:=q_
      refine rsto (B:=Y19) (vs:=[.int .i64 251]) rfl rfl rfl (zAg _) fun w20 Y20 f20 _=>?_
      have Y20:Bk w20 by' (enc (zRp rr.r.id 251)) E.qf:=Y20
      have Q20:=Q19.fr f20 (by omega)
      refine rldG (ds:=enc (zRp rr.r.id 251)) (B:=Y20) rfl (Enc.len _) ?_
      refine rsto (B:=Q20) (vs:=enc (zRp rr.r.id 251)) rfl rfl rfl (Enc.one _) fun w21 Q21 f21 _=>?_
      have Q21:Bk w21 b6 (enc (zRp rr.r.id 251)) E.qf:=Q21
      refine rresG (B:=Q21) rfl ?_
      have fl:=(fl19.trans (f20.mono fun i _ h=>.inl (by omega))).trans (f21.mono fun i _ h=>.inl (by omega))
      exact⟨⟨zRp rr.r.id 251,true,rfl,.inl ⟨rfl,_,_,K,wt,hd,lw,lh,_,RW2,q1,hrv.id,rfl,rfl,rfl,(fun u _=>SlF.nil u),mZ fl,zA8 hk,q2⟩⟩,mF fl⟩
     ·have q_:=zDo hu hov2 hdn.symm (by omega)
      obtain⟨q1,q2⟩:=q_
      refine rldG (ds:=enc (zRp rr.r.id 0)) (B:=Y19) rfl (Enc.len _) ?_
      refine rsto (B:=Q19) (vs:=enc (zRp rr.r.id 0)) rfl rfl rfl (Enc.one _) fun w20 Q20 f20 _=>?_
      have Q20:Bk w20 b6 (enc (zRp rr.r.id 0)) E.qf:=Q20
      refine rresG (B:=Q20) rfl ?_
      have fl:=fl19.trans (f20.mono fun i _ h=>.inl (by omega))
      rw [q2] at hok
      have q3:=mP fl hok
      rw [show aftS s.held k0 x0 i=(stepS g c s.held k0).1 from q2.symm] at q3
      exact⟨⟨zRp rr.r.id 0,false,rfl,.inr ⟨rfl,q1,q3⟩⟩,mF fl⟩
 ·refine ral fun bJ w3 n3 JJ3=>⟨Fr.fr n3.e,?_⟩
  refine ral fun bx w4 n4 X4=>⟨Fr.fr n4.e,?_⟩
  have hbx:=n4.lo (u:=w)
  have hbJ:=n3.lo (u:=w)
  have hbx1:=n4.lo (u:=w1)
  have hbJ1:=n3.lo (u:=w1)
  have hbxj:¬bJ=bx:=by have:=n4.b;have:=n3.lt;omega
  have JJ4:=JJ3.mv (w:=w4)
  refine rsto (B:=X4) (vs:=enc rr.r) rfl rfl rfl (Enc.one _) fun w5 X5 f5 _=>?_
  have X5:Bk w5 bx (enc rr.r) E.qd:=X5
  have s5:Stp w1 w5:=⟨Fr.st (Le.e (a:=w1) (b:=w4)) f5 fun i hi=>by omega⟩
  have JJ5:=JJ4.fr f5 hbxj
  refine⟨f5.mono fun i _ hi=>by omega,?_⟩
  refine rsto (B:=JJ5) (vs:=enc jj) rfl rfl rfl (Enc.one _) fun w6 JJ6 f6 _=>?_
  have JJ6:Bk w6 bJ (enc jj) E.qz:=JJ6
  have s6:Stp w1 w6:=⟨Fr.st s5.e f6 fun i hi=>by omega⟩
  have X6:=X5.fr f6 (fun h=>hbxj h.symm)
  refine⟨f6.mono fun i _ hi=>by omega,?_⟩
  clear X4 JJ4 X5 JJ5
  refine rld (B:=X6) rfl ?_
  refine rbuild (cs:=enc (zRp rr.r.id 0)) rfl ?_
  refine ral fun by' w7 n7 Y7=>?_
  have hby:=n7.lo (u:=w)
  have hby6:b6<by':=by have:=n7.b;have:=Le.size (a:=w1) (b:=w6);omega
  refine rsto (B:=Y7) (vs:=enc (zRp rr.r.id 0)) rfl rfl rfl (Enc.one _) fun w8 Y8 f8 _=>?_
  have Y8:Bk w8 by' (enc (zRp rr.r.id 0)) E.qf:=Y8
  have s8:Stp w6 w8:=⟨Fr.st (Le.e (a:=w6) (b:=w7)) f8 fun i hi=>by have:=n7.b;omega⟩
  clear Y7 f8
  have X8:=X6.mv (w:=w8)
  have JJ8:=JJ6.mv (w:=w8)
  refine drawR TBok mixed (fun _=>False) [0,1,2,3,4,5,6,7,9,10,11,12,13,14,15,16,8,17,18,19,20,21,22,23,24] (by kernel_rfl) fun w9 e9 _=>?_
  refine tldG (ds:=enc rr.r.q) (B:=X8) rfl (Enc.len _) not_false ?_
  refine tldG (ds:=enc K.xr) (B:=S.cell) rfl (Enc.len _) not_false ?_
  refine tld (B:=JJ8) rfl not_false (tld (B:=S.cell) rfl not_false ?_)
  refine rcall (zCC (SrvP.up (w':=w9) SP) hk) ?_
  rintro _ w10 ⟨O10,e10⟩
  rw [hu] at O10
  have O10:Own w9.heap.size E.qg w10 _ (sts g x0.q k0 i):=O10
  have q_:=O10.shape
  obtain⟨sa,sc,rfl⟩:=q_
  refine⟨e10.e,?_⟩
  have Fu:=S.fz.at (w':=w10)
  have hV:=(hHd2.at (w':=w10))
  have D:=zEb (W:=c.workers) (xq:=rr.r.q) (S:=sts g x0.q k0 i) (M:=mls g x0.q k0 i) hgi Fu.rows ⟨hV.1.q.kind,hV.1.q.rad⟩ O10.sl hV.2 (h3.up (w':=w10)) hW (zHh i) (fun x hx=>⟨(hmay hx).1,(hmay hx).2.1⟩) (fun x hx=>⟨(hmm hx).1,(hmm hx).2.1⟩) (by have:=hsn i;omega) (hmn i)
  rw [hlaw] at D
  refine rcall D ?_
  rintro _ w11 ⟨⟨v1,v2,rfl,O11,M11⟩,e11⟩
  dsimp only at O11 M11
  refine⟨e11.e,?_⟩
  have q_:=O11.shape
  obtain⟨sa2,sc2,rfl⟩:=q_
  have q_:=M11.shape
  obtain⟨ma2,mc2,rfl⟩:=q_
  refine ite (fun h=>absurd rfl h) (fun _=>?_)
  have z9:=Le.size (a:=w) (b:=w9)
  have z10:=e10.e.size
  have z11:=e11.e.size
  have ly:=(Y8.mv (w:=w9)).lt
  have lq:=(Y1.mv (w:=w9)).lt
  have lx:=(X8.mv (w:=w9)).lt
  have lJ:=(JJ8.mv (w:=w9)).lt
  refine rcall (zDn (S.up (w':=w11)) (Nat.le_trans hB (Le.size (a:=w) (b:=w11))) hu O11 (fun i hi=>by have:=hRlt i hi;omega)) ?_
  rintro _ w12 ⟨⟨b,Ls,RW2,rfl,S2,GR2,hov,hbut,hall⟩,fa12⟩
  have f12:Fr R w11 w12:=fa12.mono fun i _ ⟨k,hk,h⟩=>(S.rw k hk i h).1
  have m12:Fr (mutS bs K.bj c.workers RW) w w12:=(Fr.fr (Le.e (a:=w) (b:=w11))).trans (fa12.mono fun i _ h=>zBt h)
  have hnR:∀{b:Nat},w.heap.size≤b→¬R b:=fun {b} hb h=>by have:=hRlt b h;omega
  have Y12:=(Y8.mv (w:=w11)).fr f12 (hnR hby)
  have Q12:=(Y1.mv (w:=w11)).fr f12 (hnR hb6)
  have X12:=(X8.mv (w:=w11)).fr f12 (hnR hbx)
  have JJ12:=(JJ8.mv (w:=w11)).fr f12 (hnR hbJ)
  have O12:=O11.fr f12 fun b hb _=>hnR (by omega)
  have M12:=M11.fr f12 fun b hb _=>hnR (by omega)
  have z12:=f12.size
  have fR12:Fr R w w12:=(Fr.fr (Le.e (a:=w) (b:=w11))).trans f12
  have hov2:overS g c (s.held.set k0 (some (x0,i+1))) = !b:=hov
  cases b with
  |false =>
   have q_:=zHU hu hov2
   obtain⟨q1,q2⟩:=q_
   refine rsto (B:=Y12) (vs:=[.int .i64 250]) rfl rfl rfl (zAg _) fun w13 Y13 f13 _=>?_
   have Y13:Bk w13 by' (enc (zRp rr.r.id 250)) E.qf:=Y13
   have Q13:=Q12.fr f13 (by omega)
   refine rldG (ds:=enc (zRp rr.r.id 250)) (B:=Y13) rfl (Enc.len _) ?_
   refine rsto (B:=Q13) (vs:=enc (zRp rr.r.id 250)) rfl rfl rfl (Enc.one _) fun w14 Q14 f14 _=>?_
   have Q14:Bk w14 b6 (enc (zRp rr.r.id 250)) E.qf:=Q14
   refine rresG (B:=Q14) rfl ?_
   have f1214:Fr (fun i=>w.heap.size≤i∧i<w9.heap.size) w12 w14:=(f13.mono fun i _ hi=>by omega).trans (f14.mono fun i _ hi=>by omega)
   have fR14:Fr R w w14:=fR12.join f1214 (fun _ _ h=>h) fun i hi h=>by omega
   have z14:=f1214.size
   have SX2:=(S2.away f1214 (fun i hi h=>by rcases h with h|h;exact hnR hi.1 h;omega)).wide (R':=gR R w w14) (fun i hi=>hi.imp id fun h=>by omega) fun i hi=>by
    have:=(SrvX.reg SP).1
    rcases hi with hi|hi
    ·have:=this i hi;omega
    ·omega
   exact⟨⟨zRp rr.r.id 250,true,rfl,.inl ⟨rfl,_,Ls,K,wt,hd,lw,lh,lj,RW2,q1,hrv.id,rfl,rfl,rfl,(fun u _=>SlF.nil u),SX2.loose k0,hbut,q2⟩⟩,fR14⟩
  |true =>
   have hLs:=hall rfl
   subst hLs
   have hreg:=(SrvX.reg SP).1
   have hM2:∀i,mutS bs K.bj c.workers RW2 i→mutS bs K.bj c.workers RW i∨w11.heap.size≤i:=fun i h=>by
    rcases h with h|h|⟨k,hk,h⟩
    ·exact .inl (.inl h)
    ·exact .inl (.inr (.inl h))
    ·exact(GR2 k hk i h).imp (fun h1=>.inr (.inr ⟨k,hk,h1⟩)) id
   have S2:=S2.wide (R':=gR R w9 w12) (fun i hi=>hi.imp id fun h=>by omega) fun i hi=>by
    rcases hi with hi|hi
    ·have:=hreg i hi;omega
    ·omega
   have F2:=S2.fz.here
   have hkj2:k0<lj.length:=by rw [F2.ljn];exact hk
   have hlh:lh.length≤64:=by rw [F2.lhn];omega
   have hnb:∀{b:Nat},w.heap.size≤b→¬b=K.bj:=fun {b} h1 h=>by omega
   have q_:∃nj:RJob,nj=⟨⟨ma2,(mls g x0.q k0 (i+1)).length,mc2⟩,((i+1:Nat):Int)⟩:=⟨_,rfl⟩
   obtain⟨nj,hnj⟩:=q_
   refine drawR TBok mixed (fun i=>i=K.bj) [0,1,2,3,4,5,6,7,8,9,10,11] (by kernel_rfl) fun w13 e13 _=>?_
   refine tld (B:=S2.cell) rfl (fun h=>S2.ne h) ?_
   refine tld (B:=JJ12) rfl (hnb hbJ) ?_
   refine rarE (y:=((i+1:Nat):Int)) (by rw [hsteps];push_cast;rfl) (by omega) ?_
   refine tbuild (cs:=enc nj) (by rw [hnj];rfl) ?_
   have J13:=S2.jobs.up (w':=w13)
   refine tixO rfl J13 (x:=lj[k0]) (by simp) fun gj hgj _ _=>?_
   refine rstO' rfl nj J13 hgj hkj rfl fun w14 J14 f14 _=>?_
   have f14:Fr (fun i=>i=K.bj) w13 w14:=f14.mono fun i _ hi=>bjD hi
   refine⟨f14,?_⟩
   have Y14:=(Y12.mv (w:=w13)).fr f14 (hnb hby)
   have Q14:=(Q12.mv (w:=w13)).fr f14 (hnb hb6)
   have X14:=(X12.mv (w:=w13)).fr f14 (hnb hbx)
   have JJ14:=(JJ12.mv (w:=w13)).fr f14 (hnb hbJ)
   have C14:=(S2.cell.mv (w:=w13)).fr f14 S2.ne
   have f1214:Fr (fun i=>i=K.bj) w12 w14:=(Fr.fr (Le.e (a:=w12) (b:=w13))).trans f14
   have m1214:Fr (mutS bs K.bj c.workers RW2) w12 w14:=f1214.mono fun i _ h=>.inr (.inl h)
   have O14:SlF w14 (.slice sa2 (sts g x0.q k0 (i+1)).length sc2) (sts g x0.q k0 (i+1)):=by
    by_cases hl:sts g x0.q k0 (i+1)=[]
    ·rw [hl];exact SlF.nil' _ _ _
    ·have q_:=O11.lt hl
     obtain⟨gq,g1,g2,g3⟩:=q_
     exact O12.sl.fr f1214 fun b hb h=>by rw [g1] at hb;cases hb;omega
   have M14:SlF w14 (.slice ma2 (mls g x0.q k0 (i+1)).length mc2) (mls g x0.q k0 (i+1)):=by
    by_cases hl:mls g x0.q k0 (i+1)=[]
    ·rw [hl];exact SlF.nil' _ _ _
    ·have q_:=M11.lt hl
     obtain⟨gq,g1,g2,g3⟩:=q_
     exact M12.sl.fr f1214 fun b hb h=>by rw [g1] at hb;cases hb;omega
   have T14:=S2.st.away f1214 fun k hk i hi h=>(S2.rw k hk i hi).2.2 h
   have F14:=S2.fz w14 (m1214.mono fun i _ h=>.inl h)
   have hV14:RqV w14 rr.r x0:=(hHd2 w14 ((m12.trans (f1214.mono fun i _ h=>.inr (.inl h))).mono fun i _ h=>.inl h)).1
   have z14:=f1214.size
   have hwn2:=F2.words.len
   have hBw:B≤w12.heap.size:=by omega
   have wide:∀{u:World},w14.heap.size≤u.heap.size→(∀i,gR (gR R w9 w12) w12 w14 i→gR R w u i)∧∀i,gR R w u i→B≤i∧i<u.heap.size:=fun {u} hz=>by
    refine⟨fun i hi=>?_,fun i hi=>?_⟩
    ·rcases hi with (hi|hi)|hi
     ·exact .inl hi
     ·exact .inr (by omega)
     ·exact .inr (by omega)
    ·rcases hi with hi|hi
     ·have:=hreg i hi;omega
     ·omega
   have apart:∀i,(w.heap.size≤i∧i<w9.heap.size)∨w14.heap.size≤i→¬gR (gR R w9 w12) w12 w14 i:=fun i h hi=>by
    rcases hi with (hi|hi)|hi
    ·have:=hRlt i hi;omega
    ·omega
    ·omega
   have fR14:Fr R w w14:=fR12.trans (f1214.mono fun i _ h=>h ▸ S.rj)
   have mF:∀{u:World},Fr (fun i=>(w.heap.size≤i∧i<w9.heap.size)∨w14.heap.size≤i) w14 u→Fr R w u:=fun {u} f=>fR14.join f (fun _ _ h=>h) fun i hi h=>by omega
   have mZ:∀{u:World},Fr (fun i=>(w.heap.size≤i∧i<w9.heap.size)∨w14.heap.size≤i) w14 u→SrvR k0 (gR R w u) B u bs g c s (wkS g c.workers (aftS s.held k0 x0 i)) K wt hd lw lh (lj.set k0 nj) RW2:=fun {u} f =>
    ((S2.fin (w1:=w12) (w':=w14) (kx':=k0) (s':=s) (Ls':=wkS g c.workers (aftS s.held k0 x0 i)) (Nat.le_refl _) m1214 hBw C14 J14 T14 (.refl _) S2.so
     ((S2.fz1 (w':=w12)).imp fun u Fa=>⟨Fa.rows,Fa.pos,Fa.words,Fa.wk,Fa.fw,Fa.fh,Fa.lwn,Fa.waits,Fa.lhn,by simp [Fa.ljn],zFm hlh Fa.helds⟩)).away f apart).wide (wide f.size).1 (wide f.size).2
   have Zm:Fz (mutS bs K.bj c.workers RW2) (gR (gR R w9 w12) w12 w12) w12 fun u=>SlF u (.slice ma2 (mls g x0.q k0 (i+1)).length mc2) (mls g x0.q k0 (i+1)):=
    M11.fzB M12.sl fun i h1 h2=>⟨.inl (.inr (by omega)),fun h=>by
     have q_:=hM2 i h
     rcases q_ with h4|h4
     ·have:=hRlt i (S.mut h4);omega
     ·omega⟩
   have mP:∀{u:World},Fr (fun i=>(w.heap.size≤i∧i<w9.heap.size)∨w14.heap.size≤i) w14 u→SvOk g c ⟨s.wait,aftS s.held k0 x0 i⟩→SrvP (gR R w u) B u bs g c ⟨s.wait,aftS s.held k0 x0 i⟩:=fun {u} f hok =>
    ⟨K,wt,hd,lw,lh,lj.set k0 nj,RW2,((S2.fin (w1:=w12) (w':=w14) (kx':=1000) (s':=⟨s.wait,aftS s.held k0 x0 i⟩) (Ls':=wkS g c.workers (aftS s.held k0 x0 i)) (Nat.le_refl _) m1214 hBw C14 J14 T14 (.refl _) hok
     (((S2.fz1 (w':=w12)).and Zm).imp fun u ⟨Fa,Sm⟩=>⟨Fa.rows,Fa.pos,Fa.words,Fa.wk,Fa.fw,Fa.fh,Fa.lwn,Fa.waits,by simp [Fa.lhn],by simp [Fa.ljn],zHA hk hu Fa.helds ⟨by rw [hnj];exact Sm,by rw [hnj]⟩⟩)).away f apart).wide (wide f.size).1 (wide f.size).2⟩
   clear wide Zm
   have hok:=(zHd k0 S.so).1
   have q_:∃an,an=(doneL g x0.q (sts g x0.q k0 (i+1)) (mls g x0.q k0 (i+1))).1:=⟨_,rfl⟩
   obtain⟨an,han⟩:=q_
   have q_:∃dn,dn=(doneL g x0.q (sts g x0.q k0 (i+1)) (mls g x0.q k0 (i+1))).2:=⟨_,rfl⟩
   obtain⟨dn,hdn⟩:=q_
   have DD:∀{u:World},Le w14 u→Sp PP F.yf #[agg rr.r.q,.slice K.ws.a K.ws.n K.ws.c,.slice sa2 (sts g x0.q k0 (i+1)).length sc2,.slice ma2 (mls g x0.q k0 (i+1)).length mc2] u fun v w'=>(∃v1,v=.tuple #[v1,.bool dn]∧AnsO u.heap.size w' v1 an)∧Stp u w':=fun {u} L=>by
    have D:=zEH (hV14.q.up (w':=u)) hrq.q.ok hgi (F14.words.up (w':=u)) (F14.pos.up (w':=u)) (by omega) (O14.up (w':=u)) (by have:=hsn (i+1);omega) (fun x hx=>by have:=hmay hx;omega) (M14.up (w':=u)) (by have:=hmn (i+1);omega)
    rw [←han,←hdn] at D
    exact D
   have lbs:bs<w14.heap.size:=by omega
   have lbx:bx<w14.heap.size:=by omega
   have lbJ:bJ<w14.heap.size:=by omega
   refine drawRT TBok mixed (fun i=>w14.heap.size≤i) (.one 0 (.one 1 (.one 2 (.one 3 (.one 4 (.one 5 (.one 6 (.one 7 (.two 8 (.one 9 (.one 10 (.one 11 (.one 12 (.one 13 (.one 14 .nil)))))) 12 (.one 8 (.one 9 (.one 10 (.one 11 (.one 13 (.one 14 .nil))))))))))))))) (by kernel_rfl) fun w15 e15 _=>?_
   refine tldG (ds:=enc rr.r.q) (B:=X14) rfl (Enc.len _) (by omega) ?_
   refine tld (B:=C14) rfl (by omega) ?_
   refine⟨?_,?_⟩
   ·refine rcall (DD (u:=w15) inferInstance) ?_
    rintro _ w16 ⟨⟨v1,rfl,ax,rfl,ha1,ha2,OA⟩,e16⟩
    refine⟨Fr.fr e16.e,?_⟩
    refine ral fun ba w17 n17 A17=>⟨Fr.fr n17.e,?_⟩
    have hba:=n17.lo (u:=w14)
    refine rsto (B:=A17) (vs:=enc ax) rfl rfl rfl (Enc.one _) fun w18 A18 f18 _=>?_
    have A18:Bk w18 ba (enc ax) E.qi:=A18
    refine⟨f18.mono fun i _ h=>by omega,?_⟩
    have s18:Stp w14 w18:=⟨Fr.st (Le.e (a:=w14) (b:=w17)) f18 fun i h=>by omega⟩
    have hn17:=n17.b
    have OA18:=((OA.up (w':=w17)).frc f18 A17 (by decide)).mono (B':=w14.heap.size) (Le.size (a:=w14) (b:=w15))
    have Y18:=Y14.mv (w:=w18)
    have Q18:=Q14.mv (w:=w18)
    have z18:=Le.size (a:=w14) (b:=w18)
    have fl18:Fr (fun i=>(w.heap.size≤i∧i<w9.heap.size)∨w14.heap.size≤i) w14 w18:=Fr.fr (Le.e (a:=w14) (b:=w18))
    cases dn with
    |true =>
     have q_:=zB4 hu hov2 hdn.symm
     obtain⟨q1,q2⟩:=q_
     rw [←han] at q1
     refine rldG (ds:=enc ax) (B:=A18) rfl (Enc.len _) ?_
     refine rsto (B:=Y18) (vs:=enc ax) rfl rfl rfl (Enc.one _) fun w19 Y19 f19 _=>?_
     have Y19:Bk w19 by' (enc (⟨rr.r.id,0,ax⟩:RepD)) E.qf:=Y19
     have Q19:=Q18.fr f19 (by omega)
     refine rldG (ds:=enc (⟨rr.r.id,0,ax⟩:RepD)) (B:=Y19) rfl (Enc.len _) ?_
     refine rsto (B:=Q19) (vs:=enc (⟨rr.r.id,0,ax⟩:RepD)) rfl rfl rfl (Enc.one _) fun w20 Q20 f20 _=>?_
     have Q20:Bk w20 b6 (enc (⟨rr.r.id,0,ax⟩:RepD)) E.qf:=Q20
     refine rresG (B:=Q20) rfl ?_
     have fl:=(fl18.trans (f19.mono fun i _ h=>.inl (by omega))).trans (f20.mono fun i _ h=>.inl (by omega))
     have OA20:=((OA18.fr f19 fun b hb _ h=>by omega).fr f20 fun b hb _ h=>by omega)
     have SZ:=mZ fl
     exact⟨⟨⟨rr.r.id,0,ax⟩,true,rfl,.inl ⟨rfl,_,_,K,wt,hd,lw,lh,_,RW2,q1,hrv.id,rfl,ha1,ha2,OA20.fz (fun i h1 h2=>⟨.inr ⟨by omega,h2⟩,fun h=>by have:=(S2.reg i (S2.mut h)).2;omega⟩),SZ,zA8 hk,q2⟩⟩,mF fl⟩
    |false =>
     refine drawR TBok mixed (fun _=>False) (upF 10 0) (by kernel_rfl) fun w19 e19 _=>?_
     refine tld (B:=JJ14) rfl not_false ?_
     refine rarE (y:=((i+1:Nat):Int)) (by rw [hsteps];push_cast;rfl) (by omega) ?_
     refine tld (B:=C14) rfl not_false ?_
     have Y19:=Y18.mv (w:=w19)
     have Q19:=Q18.mv (w:=w19)
     have fl19:=fl18.trans (Fr.fr (Le.e (a:=w18) (b:=w19)))
     refine ite (fun hbd=>?_) (fun hbd=>?_)
     ·have q_:=zDU hu hov2 hdn.symm (by omega)
      obtain⟨q1,q2⟩:=q_
      refine rsto (B:=Y19) (vs:=[.int .i64 251]) rfl rfl rfl (zAg _) fun w20 Y20 f20 _=>?_
      have Y20:Bk w20 by' (enc (zRp rr.r.id 251)) E.qf:=Y20
      have Q20:=Q19.fr f20 (by omega)
      refine rldG (ds:=enc (zRp rr.r.id 251)) (B:=Y20) rfl (Enc.len _) ?_
      refine rsto (B:=Q20) (vs:=enc (zRp rr.r.id 251)) rfl rfl rfl (Enc.one _) fun w21 Q21 f21 _=>?_
      have Q21:Bk w21 b6 (enc (zRp rr.r.id 251)) E.qf:=Q21
      refine rresG (B:=Q21) rfl ?_
      have fl:=(fl19.trans (f20.mono fun i _ h=>.inl (by omega))).trans (f21.mono fun i _ h=>.inl (by omega))
      exact⟨⟨zRp rr.r.id 251,true,rfl,.inl ⟨rfl,_,_,K,wt,hd,lw,lh,_,RW2,q1,hrv.id,rfl,rfl,rfl,(fun u _=>SlF.nil u),mZ fl,zA8 hk,q2⟩⟩,mF fl⟩
     ·have q_:=zDo hu hov2 hdn.symm (by omega)
      obtain⟨q1,q2⟩:=q_
      refine rldG (ds:=enc (zRp rr.r.id 0)) (B:=Y19) rfl (Enc.len _) ?_
      refine rsto (B:=Q19) (vs:=enc (zRp rr.r.id 0)) rfl rfl rfl (Enc.one _) fun w20 Q20 f20 _=>?_
      have Q20:Bk w20 b6 (enc (zRp rr.r.id 0)) E.qf:=Q20
      refine rresG (B:=Q20) rfl ?_
      have fl:=fl19.trans (f20.mono fun i _ h=>.inl (by omega))
      rw [q2] at hok
      have q3:=mP fl hok
      rw [show aftS s.held k0 x0 i=(stepS g c s.held k0).1 from q2.symm] at q3
      exact⟨⟨zRp rr.r.id 0,false,rfl,.inr ⟨rfl,q1,q3⟩⟩,mF fl⟩
   ·refine ral fun ba w16 n16 A16=>⟨Fr.fr n16.e,?_⟩
    have hba:=n16.lo (u:=w14)
    refine rcall (DD (u:=w16) inferInstance) ?_
    rintro _ w17 ⟨⟨v1,rfl,ax,rfl,ha1,ha2,OA⟩,e17⟩
    refine⟨Fr.fr e17.e,?_⟩
    refine rsto (B:=A16) (vs:=enc ax) rfl rfl rfl (Enc.one _) fun w18 A18 f18 _=>?_
    have A18:Bk w18 ba (enc ax) E.qi:=A18
    refine⟨f18.mono fun i _ h=>by omega,?_⟩
    have s18:Stp w14 w18:=⟨Fr.st (Le.e (a:=w14) (b:=w17)) f18 fun i h=>by omega⟩
    have hn16:=n16.lt
    have OA18:=(OA.fr f18 fun b hb _ h=>by omega).mono (B':=w14.heap.size) (Le.size (a:=w14) (b:=w16))
    have Y18:=Y14.mv (w:=w18)
    have Q18:=Q14.mv (w:=w18)
    have z18:=Le.size (a:=w14) (b:=w18)
    have fl18:Fr (fun i=>(w.heap.size≤i∧i<w9.heap.size)∨w14.heap.size≤i) w14 w18:=Fr.fr (Le.e (a:=w14) (b:=w18))
    cases dn with
    |true =>
     have q_:=zB4 hu hov2 hdn.symm
     obtain⟨q1,q2⟩:=q_
     rw [←han] at q1
     refine rldG (ds:=enc ax) (B:=A18) rfl (Enc.len _) ?_
     refine rsto (B:=Y18) (vs:=enc ax) rfl rfl rfl (Enc.one _) fun w19 Y19 f19 _=>?_
     have Y19:Bk w19 by' (enc (⟨rr.r.id,0,ax⟩:RepD)) E.qf:=Y19
     have Q19:=Q18.fr f19 (by omega)
     refine rldG (ds:=enc (⟨rr.r.id,0,ax⟩:RepD)) (B:=Y19) rfl (Enc.len _) ?_
     refine rsto (B:=Q19) (vs:=enc (⟨rr.r.id,0,ax⟩:RepD)) rfl rfl rfl (Enc.one _) fun w20 Q20 f20 _=>?_
     have Q20:Bk w20 b6 (enc (⟨rr.r.id,0,ax⟩:RepD)) E.qf:=Q20
     refine rresG (B:=Q20) rfl ?_
     have fl:=(fl18.trans (f19.mono fun i _ h=>.inl (by omega))).trans (f20.mono fun i _ h=>.inl (by omega))
     have OA20:=((OA18.fr f19 fun b hb _ h=>by omega).fr f20 fun b hb _ h=>by omega)
     have SZ:=mZ fl
     exact⟨⟨⟨rr.r.id,0,ax⟩,true,rfl,.inl ⟨rfl,_,_,K,wt,hd,lw,lh,_,RW2,q1,hrv.id,rfl,ha1,ha2,OA20.fz (fun i h1 h2=>⟨.inr ⟨by omega,h2⟩,fun h=>by have:=(S2.reg i (S2.mut h)).2;omega⟩),SZ,zA8 hk,q2⟩⟩,mF fl⟩
    |false =>
     refine drawR TBok mixed (fun _=>False) (upF 10 0) (by kernel_rfl) fun w19 e19 _=>?_
     refine tld (B:=JJ14) rfl not_false ?_
     refine rarE (y:=((i+1:Nat):Int)) (by rw [hsteps];push_cast;rfl) (by omega) ?_
     refine tld (B:=C14) rfl not_false ?_
     have Y19:=Y18.mv (w:=w19)
     have Q19:=Q18.mv (w:=w19)
     have fl19:=fl18.trans (Fr.fr (Le.e (a:=w18) (b:=w19)))
     refine ite (fun hbd=>?_) (fun hbd=>?_)
     ·have q_:=zDU hu hov2 hdn.symm (by omega)
      obtain⟨q1,q2⟩:=q_
      refine rsto (B:=Y19) (vs:=[.int .i64 251]) rfl rfl rfl (zAg _) fun w20 Y20 f20 _=>?_
      have Y20:Bk w20 by' (enc (zRp rr.r.id 251)) E.qf:=Y20
      have Q20:=Q19.fr f20 (by omega)
      refine rldG (ds:=enc (zRp rr.r.id 251)) (B:=Y20) rfl (Enc.len _) ?_
      refine rsto (B:=Q20) (vs:=enc (zRp rr.r.id 251)) rfl rfl rfl (Enc.one _) fun w21 Q21 f21 _=>?_
      have Q21:Bk w21 b6 (enc (zRp rr.r.id 251)) E.qf:=Q21
      refine rresG (B:=Q21) rfl ?_
      have fl:=(fl19.trans (f20.mono fun i _ h=>.inl (by omega))).trans (f21.mono fun i _ h=>.inl (by omega))
      exact⟨⟨zRp rr.r.id 251,true,rfl,.inl ⟨rfl,_,_,K,wt,hd,lw,lh,_,RW2,q1,hrv.id,rfl,rfl,rfl,(fun u _=>SlF.nil u),mZ fl,zA8 hk,q2⟩⟩,mF fl⟩
     ·have q_:=zDo hu hov2 hdn.symm (by omega)
      obtain⟨q1,q2⟩:=q_
      refine rldG (ds:=enc (zRp rr.r.id 0)) (B:=Y19) rfl (Enc.len _) ?_
      refine rsto (B:=Q19) (vs:=enc (zRp rr.r.id 0)) rfl rfl rfl (Enc.one _) fun w20 Q20 f20 _=>?_
      have Q20:Bk w20 b6 (enc (zRp rr.r.id 0)) E.qf:=Q20
      refine rresG (B:=Q20) rfl ?_
      have fl:=fl19.trans (f20.mono fun i _ h=>.inl (by omega))
      rw [q2] at hok
      have q3:=mP fl hok
      rw [show aftS s.held k0 x0 i=(stepS g c s.held k0).1 from q2.symm] at q3
      exact⟨⟨zRp rr.r.id 0,false,rfl,.inr ⟨rfl,q1,q3⟩⟩,mF fl⟩
end
section
variable {kx:Nat} {R:Nat→Prop} {B:Nat} {w0 w w':World} {bs:Nat} {g:GrD} {c:CfD} {s:SvD} {Ls:Nat→List StD} {K:SrvK} {wt hd:SV} {lw:List RReq} {lh:List RHeld} {lj:List RJob} {RW:Nat→Nat→Prop}
theorem zFx(k:Nat):∀(ks:List Nat) (h:Hs),stepsS g c (ks++[k]) h=((stepS g c (stepsS g c ks h).1 k).1,(stepsS g c ks h).2++(stepS g c (stepsS g c ks h).1 k).2.toList)
 |[],h=>by simp [stepsS]
 |a::r,h=>by
  have:=zFx k r (stepS g c h a).1
  show ((stepsS g c (r++[k]) (stepS g c h a).1).1,(stepS g c h a).2.toList++(stepsS g c (r++[k]) (stepS g c h a).1).2)=_
  rw [this]
  refine Prod.ext rfl ?_
  show _++(_++_)=(_++_)++_
  rw [List.append_assoc];rfl
theorem zDV:∀(ks:List Nat) (h:Hs),(stepsS g c ks h).2.length≤ks.length
 |[],h=>Nat.le_refl _
 |a::r,h=>by
  have:=zDV r (stepS g c h a).1
  show ((stepS g c h a).2.toList++(stepsS g c r (stepS g c h a).1).2).length≤r.length+1
  rw [List.length_append]
  cases (stepS g c h a).2 <;> simp <;> omega
theorem zFy:∀(ks:List Nat) (h:Hs),j∉ks→(stepsS g c ks h).1.getD j none=h.getD j none
 |[],h,_=>rfl
 |a::r,h,hn=>by
  rw [List.mem_cons,not_or] at hn
  show (stepsS g c r (stepS g c h a).1).1.getD j none=_
  rw [zFy r _ hn.2,zK1 hn.1]
theorem zMq{y:RepD}{p:Int×Int×AnP}(h1:y.id=p.1)(h2:y.code=p.2.1)(h3:y.a.found=p.2.2.found)(h4:y.a.num=p.2.2.num):(RepOk y p.2.2.hits↔RepOk (repOf p.1 p.2.1 p.2.2) p.2.2.hits)∧encR y p.2.2.hits=encR (repOf p.1 p.2.1 p.2.2) p.2.2.hits:=by
 obtain⟨id,code,found,num,s⟩:=y
 obtain⟨pid,pc,pa⟩:=p
 dsimp only at h1 h2 h3 h4
 subst h1 h2 h3 h4
 exact⟨Iff.rfl,rfl⟩
set_option maxHeartbeats 2000000 in
theorem zDm{c3:Nat}(S:SrvP R B w bs g c s)(hB:B≤w.heap.size)(h3:∀u,Fr R w u→SlF u (.slice a3 n3 c3) ps):
  Sp PP F.zm #[.pointer (some ⟨bs,0,none⟩),.slice a3 n3 c3] w fun v w'=>∃R':Nat→Prop,Own w.heap.size E.qc w' v ((tickS g c s).2.map bsOf)∧(∀b,Value.blk v=some b→b<w'.heap.size∧¬R' b)∧SrvP R' B w' bs g c (tickS g c s).1∧(∀i,R' i→gR R w w' i)∧Fr R w w':=by
 have hR:=(SrvX.reg S).1
 refine en TBok rfl ?_
 refine rpnil ?_
 refine rcall (zGI S hB) ?_
 rintro _ w1 ⟨S1,f1⟩
 have z1:=f1.size
 have q_:∃s1:SvD,s1=⟨(admitS s.wait s.held).1,(admitS s.wait s.held).2⟩:=⟨_,rfl⟩
 obtain⟨s1,hs1⟩:=q_
 rw [←hs1] at S1
 have hR1:=(SrvX.reg S1).1
 have S1':=S1
 obtain⟨K,wt,hd,lw,lh,lj,RW,S2⟩:=S1'
 have hsm:=S2.small
 have F2:=S2.fz.here
 have hu:=F2.usedH
 have hhn:=F2.fh.len
 have hul:(usedS s1.held).length≤lh.length:=by rw [F2.lhn];exact zG8 _ _
 refine rld (B:=S2.cell) rfl ?_
 have D:=zIc F2.fh (by omega)
 rw [hu] at D
 refine rcall D ?_
 rintro v w2 ⟨O2,e2⟩
 have q_:=O2.shape
 obtain⟨ua,uc,rfl⟩:=q_
 have z2:=e2.e.size
 have hlen:((usedS s1.held).map fun k:Nat=>(k:Int)).length=(usedS s1.held).length:=by simp
 have P0:SrvP (gR R w w1) B w2 bs g c ⟨s1.wait,(stepsS g c ((usedS s1.held).take 0) s1.held).1⟩:=SrvP.up (w':=w2) S1
 refine cnt1 TBok 22 [7,8,9,10,11] 5 22 (usedS s1.held).length (fun j v u=>∃Rj:Nat→Prop,Own w2.heap.size E.qc u v ((stepsS g c ((usedS s1.held).take j) s1.held).2.map bsOf)∧(∀b,Value.blk v=some b→b<u.heap.size∧¬Rj b) ∧
   SrvP Rj B u bs g c ⟨s1.wait,(stepsS g c ((usedS s1.held).take j) s1.held).1⟩∧(∀i,Rj i→gR R w w1 i∨w2.heap.size≤i)∧Fr (fun i=>Rj i∧i<w2.heap.size) w2 u) rfl rfl
  ⟨gR R w w1,Own.nil _ _ _,(fun b hb=>by cases hb),P0,(fun i hi=>.inl hi),Fr.refl _ _⟩ ?_
 clear P0
 rintro j v G u hj ⟨Rj,O,hoff,P,hRj,f⟩
 have zu:=f.size
 have ff:Fr (fun i=>gR R w w1 i∧i<w2.heap.size) w2 u:=f.mono fun i hi h=>⟨(hRj i h.1).elim id fun h2=>by omega,h.2⟩
 have fR:Fr R w u:=(f1.join (H:=fun i=>R i) ((Fr.fr (D:=fun i=>gR R w w1 i∧i<w2.heap.size) e2.e).trans ff) (fun _ _ h=>h) fun i hi h=>h.1.elim id fun h=>by omega)
 have Ou:=O2.fr ff fun b hb hb2 h=>by rcases h.1 with h4|h4;(have:=hR b h4;omega);omega
 refine ite (fun hlt=>?_) (fun hge=>?_)
 ·have hja:j<(usedS s1.held).length:=by (try dsimp only at hlt);omega
  have q_:∃k,k=(usedS s1.held)[j]:=⟨_,rfl⟩
  obtain⟨k,hk⟩:=q_
  have hkm:k∈usedS s1.held:=by rw [hk];exact List.getElem_mem hja
  have q_:=zLN hkm
  obtain⟨x0,i,hx0⟩:=q_
  have hkn:k∉(usedS s1.held).take j:=fun h=>by
   have q_:=List.mem_iff_getElem.1 h
   obtain⟨m,hm,he⟩:=q_
   rw [List.length_take] at hm
   rw [List.getElem_take,hk] at he
   have:=(List.getElem_inj (zNC s1.held)).1 he
   omega
  have hx:(stepsS g c ((usedS s1.held).take j) s1.held).1.getD k none=some (x0,i):=by rw [zFy _ _ hkn];exact hx0
  have hsnoc:=zFx (g:=g) (c:=c) k ((usedS s1.held).take j) s1.held
  rw [show (usedS s1.held).take j++[k]=(usedS s1.held).take (j+1) by rw [hk,←List.take_succ_eq_append_getElem hja]] at hsnoc
  have q_:∃hj1,hj1=(stepsS g c ((usedS s1.held).take j) s1.held).1:=⟨_,rfl⟩
  obtain⟨hj1,hhj⟩:=q_
  have q_:∃lo,lo=(stepsS g c ((usedS s1.held).take j) s1.held).2:=⟨_,rfl⟩
  obtain⟨lo,hlo⟩:=q_
  rw [←hhj] at hx P hsnoc
  rw [←hlo] at O hsnoc
  have hBu:B≤u.heap.size:=by omega
  have hRu:=(SrvX.reg P).1
  refine rix Ou.sl (x:=(k:Int)) (by simp [hja,hk]) fun b1 o1 A1=>rload1 (A1.cell0 rfl) ?_
  refine rcall (zHb P hBu hx (h3 u fR)) ?_
  rintro _ u1 ⟨⟨y,all,rfl,hcase⟩,fs⟩
  have zs:=fs.size
  refine ral fun by' u2 n2 Y2=>?_
  have hby:=n2.lo (u:=u1)
  have hbyl:=n2.lt
  refine rsto (B:=Y2) (vs:=enc y) rfl rfl rfl (Enc.one _) fun u3 Y3 f3 _=>?_
  have Y3:Bk u3 by' (enc y) E.qf:=Y3
  have s3:Stp u1 u3:=⟨Fr.st Le.e f3 fun i hi=>by subst hi;exact hby⟩
  clear Y2 f3
  have z3:=Le.size (a:=u1) (b:=u3)
  have grow:∀{b:Nat},b<u.heap.size→¬Rj b→∀{x y:World},u.heap.size≤x.heap.size→¬gR Rj x y b:=fun {b} hb hn {x y} hx h=>h.elim hn fun h=>by omega
  have hlol:lo.length≤64:=by
   have:=zDV (g:=g) (c:=c) ((usedS s1.held).take j) s1.held
   rw [←hlo,List.length_take] at this;omega
  have Os:Own w2.heap.size E.qc u1 v (lo.map bsOf):=O.fr fs fun b _ hb=>(hoff b hb).2
  have hf1:Fr (fun i=>gR Rj u u1 i∧i<w2.heap.size) w2 u1:=f.join fs (fun i _ h=>⟨.inl h.1,h.2⟩) fun i hi h=>⟨.inl h,hi⟩
  have hR1j:∀{y x:World},w2.heap.size≤x.heap.size→∀i,gR Rj x y i→gR R w w1 i∨w2.heap.size≤i:=fun {y x} hx i hi=>hi.elim (hRj i) fun h=>.inr (by omega)
  rcases hcase with ⟨rfl,p,Ls,K,wt,hd,lw,lh,lj,RW,q1,hy1,hy2,hy3,hy4,HZ,SZ,hbut,q2⟩|⟨rfl,q1,P1⟩
  ·have SZ3:=SZ.up (w':=u3)
   refine rcall (zCY SZ3 hbut hx (by omega)) ?_
   rintro _ u4 ⟨P4,m4⟩
   have f4:Fr (gR Rj u u1) u3 u4:=m4.mono fun i _ h=>SZ3.mut h
   have z4:=f4.size
   have Y4:=Y3.fr f4 fun h=>h.elim (fun h=>by have:=(hRu _ h).2;omega) fun h=>by omega
   have H4:SlF u4 (.slice y.a.s.a y.a.s.n y.a.s.c) p.2.2.hits:=HZ u4 (((Fr.fr (Le.e (a:=u1) (b:=u3))).trans m4).mono fun i _ h=>.inl h)
   refine rldG (ds:=enc y) (B:=Y4) rfl (Enc.len _) ?_
   have hrep:=((zMF (SrvX.reg P).2.2.1 (SrvX.reg P).2.2.2 q1).ok (SrvX.reg P).2.1.ok).1
   refine rcall (zCc (x:=y) H4 (by have:=hrep.2.2.2.1;omega)) ?_
   rintro v5 u5 ⟨hput,e5⟩
   have hput:∃e,v5=Value.tuple #[txt (bytR p),e]:=by
    have q_:=zMq hy1 hy2 hy3 hy4
    obtain⟨r1,r2⟩:=q_
    rcases hput with ⟨h1,h2⟩|⟨h1,h2⟩
    ·refine⟨.int .i64 0,?_⟩;rw [h2,r2,bytR,zKk (r1.1 h1)]
    ·refine⟨.int .i64 1,?_⟩;rw [h2,bytR,zKj (fun h=>h1 (r1.2 h))]
   obtain⟨ee,rfl⟩:=hput
   refine rbs1 (bsOf (bytR p)) rfl rfl (by decide) fun b6 u6 n6 _ S6=>?_
   have O4:Own w2.heap.size E.qc u4 v (lo.map bsOf):=(Os.up (w':=u3)).fr f4 fun b _ hb=>grow (hoff b hb).1 (hoff b hb).2 (Nat.le_refl _)
   have z6:=Le.size (a:=u4) (b:=u6)
   refine rappD ⟨rfl,rfl⟩ (O4.up (w':=u6)) S6 (by simp) (by omega) (by rw [List.length_map];simp;omega) fun v7 u7 O7 f7 hv7=>?_
   have z7:=f7.size
   have P7:=P4.up (w':=u6)
   have nv:∀b,ownD w2.heap.size v b→b<u.heap.size∧¬Rj b:=fun b hb=>hoff b hb.2.1
   have hD7:∀b,ownD w2.heap.size v b→¬gR (gR Rj u u1) u3 u4 b:=fun b hb h=>by
    have:=nv b hb
    rcases h with (h|h)|h
    ·exact this.2 h
    ·omega
    ·omega
   have P8:=SrvP.away P7 f7 hD7
   have k1:Own w2.heap.size E.qc u7 v7 ((stepsS g c ((usedS s1.held).take (j+1)) s1.held).2.map bsOf):=by
    have:(stepsS g c ((usedS s1.held).take (j+1)) s1.held).2.map bsOf=lo.map bsOf++[bsOf (bytR p)]:=by
     rw [hsnoc]
     show (lo++(stepS g c hj1 k).2.toList).map bsOf=_
     rw [(zDT hj1 k).1,q1,List.map_append];rfl
    rw [this];exact O7
   have k2:∀b,Value.blk v7=some b→b<u7.heap.size∧¬gR (gR Rj u u1) u3 u4 b:=fun b hb=>by
    rcases hv7 with h|h
    ·rw [h] at hb
     have:=hoff b hb
     refine⟨by omega,fun h2=>?_⟩
     rcases h2 with (h2|h2)|h2
     ·exact this.2 h2
     ·omega
     ·omega
    ·rw [h] at hb;cases hb
     have q_:=O7.lt (by simp)
     obtain⟨gq,g1,_,g3⟩:=q_
     rw [h] at g1;cases g1
     refine⟨g3,fun h=>?_⟩
     rcases h with (h|h)|h
     ·have:=(hRu _ h).2;omega
     ·omega
     ·omega
   have k3:SrvP (gR (gR Rj u u1) u3 u4) B u7 bs g c ⟨s1.wait,(stepsS g c ((usedS s1.held).take (j+1)) s1.held).1⟩:=by
    rw [hsnoc]
    show SrvP _ _ _ _ _ _ ⟨s1.wait,(stepS g c hj1 k).1⟩
    rw [q2];exact P8
   have k4:∀i,gR (gR Rj u u1) u3 u4 i→gR R w w1 i∨w2.heap.size≤i:=fun i hi=>by
    rcases hi with (h|h)|h
    ·exact hRj i h
    ·exact .inr (by omega)
    ·exact .inr (by omega)
   have k5:Fr (fun i=>gR (gR Rj u u1) u3 u4 i∧i<w2.heap.size) w2 u7:=by
    refine((hf1.trans (Fr.fr (Le.e (a:=u1) (b:=u3)))).join (H:=fun i=>gR (gR Rj u u1) u3 u4 i∧i<w2.heap.size) f4 (fun i _ h=>⟨.inl h.1,h.2⟩) fun i hi h=>⟨.inl h,hi⟩).join ((Fr.fr (D:=ownD w2.heap.size v) (Le.e (a:=u4) (b:=u6))).trans f7) (fun _ _ h=>h) fun i hi h=>?_
    have:=h.1;omega
   clear Y4 H4 O4 S6 P7 P8 nv hD7 O7 f7 hv7
   exact rar (by omega) ⟨rfl,hja,_,k1,k2,k3,k4,k5⟩
  ·have P3:=SrvP.up (w':=u3) P1
   have k1:Own w2.heap.size E.qc u3 v ((stepsS g c ((usedS s1.held).take (j+1)) s1.held).2.map bsOf):=by
    have:(stepsS g c ((usedS s1.held).take (j+1)) s1.held).2.map bsOf=lo.map bsOf:=by
     rw [hsnoc]
     show (lo++(stepS g c hj1 k).2.toList).map bsOf=_
     rw [(zDT hj1 k).1,q1];simp
    rw [this];exact Os.up
   have k2:∀b,Value.blk v=some b→b<u3.heap.size∧¬gR Rj u u1 b:=fun b hb=>by
    have:=hoff b hb
    exact⟨by omega,grow this.1 this.2 (Nat.le_refl _)⟩
   have k3:SrvP (gR Rj u u1) B u3 bs g c ⟨s1.wait,(stepsS g c ((usedS s1.held).take (j+1)) s1.held).1⟩:=by rw [hsnoc];exact P3
   have k5:Fr (fun i=>gR Rj u u1 i∧i<w2.heap.size) w2 u3:=hf1.trans (Fr.fr (Le.e (a:=u1) (b:=u3)))
   exact rar (by omega) ⟨rfl,hja,gR Rj u u1,k1,k2,k3,hR1j (by omega),k5⟩
 ·obtain rfl:j=(usedS s1.held).length:=by (try dsimp only at hge);omega
  rw [List.take_length] at O P
  have h1:tickS g c s=(⟨s1.wait,(stepsS g c (usedS s1.held) s1.held).1⟩,(stepsS g c (usedS s1.held) s1.held).2):=by rw [hs1];rfl
  rw [h1]
  refine⟨Rj,O.mono (by omega),hoff,P,fun i hi=>?_,fR⟩
  have:=(SrvX.reg P).1 i hi
  have q_:=hRj i hi
  rcases q_ with (h|h)|h
  ·exact .inl h
  ·exact .inr (by omega)
  ·exact .inr (by omega)
end
section
variable {R:Nat→Prop} {B:Nat} {w0 w w':World} {bs:Nat} {g:GrD} {c:CfD} {s:SvD}
def comeV (o:Option (List UInt8)):Value:=.tuple #[txt (o.getD []),.bool o.isSome]
theorem zMR(s:SvD)(id:Int):(backS s id).2≠0:=by
 unfold backS
 split
 ·exact(by decide:(253:Int)≠0)
 ·split
  ·exact(by decide:(253:Int)≠0)
  ·exact(by decide:(141:Int)≠0)
theorem zIN(f:Fn)(a b:Array Value):∀u∈[Value.func f a b],u.oneCell'=true:=by intro u hu;simp at hu;subst hu;rfl
set_option maxHeartbeats 2000000 in
theorem zDk{f:List UInt8}(S:SrvP R B w bs g c s)(hB:B≤w.heap.size)(hf:f.length≤4611686018427387904):
  Sp PP F.zn #[.pointer (some ⟨bs,0,none⟩),txt f] w fun v w'=>v=comeV (comeS g c s f).2∧SrvP (gR R w w') B w' bs g c (comeS g c s f).1∧Fr R w w':=by
 have hlo:=S.lo
 have q_:∃s' o,comeS g c s f=(s',o):=⟨_,_,rfl⟩
 obtain⟨s',o,hC⟩:=q_
 have hc1:reqOf f=none→idOf f=none→s'=s∧o=none:=fun h1 h2=>by
  unfold comeS at hC;rw [h1] at hC;dsimp only at hC;rw [h2] at hC;cases hC;exact⟨rfl,rfl⟩
 have hc2:reqOf f=none→∀id,idOf f=some id→s'=s∧o=some (repB id 220 zAn):=fun h1 id h2=>by
  unfold comeS at hC;rw [h1] at hC;dsimp only at hC;rw [h2] at hC;cases hC;exact⟨rfl,rfl⟩
 have hc3:∀d,reqOf f=some d→d.kind=4→s'=(backS s d.id).1∧o=some (repB d.id (backS s d.id).2 zAn):=fun d h1 h2=>by
  unfold comeS at hC;rw [h1] at hC;dsimp only at hC;rw [if_pos h2] at hC;cases hC;exact⟨rfl,rfl⟩
 have hc4:∀d,reqOf f=some d→d.kind≠4→((askS g c s d (QyIs d.q g.n)).2=0∧s'=(askS g c s d (QyIs d.q g.n)).1∧o=none)∨((askS g c s d (QyIs d.q g.n)).2≠0∧s'=(askS g c s d (QyIs d.q g.n)).1∧o=some (repB d.id (askS g c s d (QyIs d.q g.n)).2 zAn)):=fun d h1 h2=>by
  unfold comeS at hC;rw [h1] at hC;dsimp only at hC;rw [if_neg h2] at hC
  by_cases h3:(askS g c s d (QyIs d.q g.n)).2=0
  ·rw [if_pos h3] at hC;cases hC;exact .inl ⟨h3,rfl,rfl⟩
  ·rw [if_neg h3] at hC;cases hC
   have hs:=(SrvX.reg S).2.2.2
   have q_:=ask_ok (x:=d) hs (zF2 h1).2.1
   rcases q_ with ⟨h4,_⟩|⟨_,h4⟩
   ·exact absurd h4 h3
   ·exact .inr ⟨h3,h4.symm,rfl⟩
 rw [hC]
 dsimp only
 refine en TBok rfl ?_
 refine rpnil ?_
 refine rcall (zBM hf) ?_
 rintro _ w1 ⟨⟨d,x,hr,rfl,O⟩|⟨hno,rfl⟩,e1⟩
 case inr =>
  refine ral fun bx w2 n2 X2=>?_
  refine rsto (B:=X2) (vs:=enc zRq) rfl rfl rfl (Enc.one _) fun w3 X3 f3 _=>?_
  have s3:Stp w1 w3:=⟨Fr.st Le.e f3 fun i hi=>by subst hi;exact n2.lo⟩
  clear X2 f3
  refine ite (fun _=>?_) (fun h=>absurd (by first|omega|decide|(dsimp only <;> omega)) h)
  refine rcall (zJx hf) ?_
  rintro _ w4 ⟨⟨id,hid,rfl⟩|⟨hid,rfl⟩,e4⟩
  ·have q_:=hc2 hno id hid
   obtain⟨rfl,rfl⟩:=q_
   refine rcall zBK ?_
   rintro _ w5 ⟨rfl,e5⟩
   exact⟨rfl,SrvP.new (w':=w5) S hB⟩
  ·have q_:=hc1 hno hid
   obtain⟨rfl,rfl⟩:=q_
   exact⟨rfl,SrvP.new (w':=w4) S hB⟩
 case inl =>
  have hd:=zF2 hr
  refine ral fun bx w2 n2 X2=>?_
  have hbx:=n2.lo (u:=w)
  refine rsto (B:=X2) (vs:=enc x) rfl rfl rfl (Enc.one _) fun w3 X3 f3 _=>?_
  have X3:Bk w3 bx (enc x) E.qd:=X3
  have s3:Stp w1 w3:=⟨Fr.st Le.e f3 fun i hi=>by subst hi;exact n2.lo⟩
  clear X2 f3
  refine ite (fun h=>absurd rfl h) (fun _=>?_)
  refine rbuild (cs:=[.func (.func F.qf) #[.pointer (some ⟨bs,0,none⟩)] #[]]) rfl ?_
  refine ral fun bd w4 n4 D4=>?_
  refine rsto (B:=D4) (vs:=[.func (.func F.qf) #[.pointer (some ⟨bs,0,none⟩)] #[]]) rfl rfl rfl (zIN _ _ _) fun w5 D5 f5 _=>?_
  have D5:Bk w5 bd [.func (.func F.qf) #[.pointer (some ⟨bs,0,none⟩)] #[]] E.yg:=D5
  have s5:Stp w3 w5:=⟨Fr.st Le.e f5 fun i hi=>by subst hi;exact n4.lo⟩
  clear D4 f5
  refine rld (B:=X3) rfl ?_
  have hk:=O.2.1
  refine ite (fun h4=>?_) (fun h4=>?_)
  ·refine rbuild (cs:=[.func (.func F.qe) #[.pointer (some ⟨bs,0,none⟩)] #[]]) rfl ?_
   refine rsto (B:=D5) (vs:=[.func (.func F.qe) #[.pointer (some ⟨bs,0,none⟩)] #[]]) rfl rfl rfl (zIN _ _ _) fun w6 D6 f6 _=>?_
   have D6:Bk w6 bd [.func (.func F.qe) #[.pointer (some ⟨bs,0,none⟩)] #[]] E.yg:=D6
   have s6:Stp w3 w6:=⟨Fr.st (Le.e (a:=w3) (b:=w5)) f6 fun i hi=>by subst hi;exact n4.lo⟩
   refine rld (B:=D6) rfl ?_
   refine rldG (ds:=enc x) (B:=X3) rfl (Enc.len _) ?_
   refine rcall (zG9 (x:=x) (w0:=w) (w:=w6) S hB) ?_
   rintro _ w7 ⟨rfl,S7,f7⟩
   refine ite (fun _=>?_) (fun h=>absurd (zMR s x.id) h)
   have X7:=(X3.mv (w:=w6)).fr f7 fun h=>by have:=hlo _ h;omega
   refine rld (B:=X7) rfl ?_
   refine rcall zBK ?_
   rintro _ w8 ⟨rfl,e8⟩
   obtain⟨rfl,rfl⟩:=hc3 d hr (by rw [←hk];exact h4)
   have hz:=f7.size
   have hz2:=Le.size (a:=w) (b:=w6)
   rw [←O.1]
   refine⟨rfl,?_,((Fr.fr (Le.e (a:=w) (b:=w6))).trans f7).trans (Fr.fr (Le.e (a:=w7) (b:=w8)))⟩
   have hreg:=(SrvX.reg S).1
   exact SrvX.wide (SrvP.up (w':=w8) S7) (fun i hi=>hi.imp id fun h=>by have:=e8.e.size;omega) fun i hi=>by
    rcases hi with hi|hi
    ·have:=hreg i hi;have:=e8.e.size;omega
    ·omega
  ·refine rld (B:=D5) rfl ?_
   refine rldG (ds:=enc x) (B:=X3) rfl (Enc.len _) ?_
   refine rcall (zIa (w0:=w) (w:=w5) S hB (RqO.up (w':=w5) O) hd) ?_
   rintro _ w7 ⟨rfl,S7,f7⟩
   have hz:=f7.size
   have hz2:=Le.size (a:=w) (b:=w5)
   have fw7:=(Fr.fr (D:=R) (Le.e (a:=w) (b:=w5))).trans f7
   have hreg:=(SrvX.reg S).1
   have q_:=hc4 d hr (by rw [←hk];exact h4)
   rcases q_ with ⟨h1,rfl,rfl⟩|⟨h1,rfl,rfl⟩
   ·refine ite (fun h=>absurd h1 h) (fun _=>?_)
    exact⟨rfl,S7,fw7⟩
   ·refine ite (fun _=>?_) (fun h=>absurd h1 h)
    have X7:=(X3.mv (w:=w5)).fr f7 fun h=>by have:=hlo _ h;omega
    refine rld (B:=X7) rfl ?_
    refine rcall zBK ?_
    rintro _ w8 ⟨rfl,e8⟩
    rw [←O.1]
    refine⟨rfl,?_,fw7.trans (Fr.fr (Le.e (a:=w7) (b:=w8)))⟩
    exact SrvX.wide (SrvP.up (w':=w8) S7) (fun i hi=>hi.imp id fun h=>by have:=e8.e.size;omega) fun i hi=>by
     rcases hi with hi|hi
     ·have:=hreg i hi;have:=e8.e.size;omega
     ·omega
end
def cfgOk (x:RCfg):Prop:=(1≤x.workers∧x.workers≤16)∧(1≤x.slots∧x.slots≤64)∧(1≤x.queue∧x.queue≤1000)∧(1≤x.pool∧x.pool≤400)∧(1≤x.budget∧x.budget≤1000)
def cfOf (x:RCfg):CfD:=⟨x.workers.toNat,x.slots.toNat,x.queue.toNat,x.pool.toNat,x.budget.toNat⟩
theorem zGR{x:RCfg}(h:cfgOk x):CfOk (cfOf x):=by
 unfold cfgOk at h
 refine⟨?_,?_,?_,?_,?_⟩ <;> simp only [cfOf] <;> omega
section
variable {B B':Nat} {w w':World} {g:GrD}
theorem StoP.low{b gs size:Nat}{L:List StD}(h:StoP R B w b gs size L)(hB:B'≤B):StoP R B' w b gs size L:=by
 obtain⟨bt,ta,tc,ts,fa,fc,fr,sc,st,bm,m,ch,h,T,M,C,Z⟩:=h
 have ht:=h.tab
 obtain⟨g0,Rw,H,r⟩:=ht
 have hl:=h.lo
 exact⟨bt,ta,tc,ts,fa,fc,fr,sc,st,bm,m,ch,⟨⟨by omega,by omega,by omega⟩,h.cell,⟨Nat.le_trans hB g0,Rw,⟨H.cell,H.row.mono hB,H.len,H.tab,H.bnd,H.may,H.zero⟩,r⟩,h.free,h.sts.mono hB,h.map,fun s v hv=>⟨(h.rows s v hv).1.mono hB,(h.rows s v hv).2⟩,h.empt,h.apart,h.apart2⟩,T,M,C,Z⟩
theorem Stos.add{W pool:Nat}{K:SrvK}{RW:Nat→Nat→Prop}{b gs:Nat}{L:List StD}{Ls:Nat→List StD}(T:Stos B w W K pool RW Ls)[Le w w'](S:StoP (fun i=>w.heap.size≤i∧i<w'.heap.size) B w' b gs pool L)(hL:Ls W=L):
  Stos B w' (W+1) { K with sb:=fun k=>if k=W then b else K.sb k,sg:=fun k=>if k=W then gs else K.sg k } pool (updR RW W fun i=>w.heap.size≤i∧i<w'.heap.size) Ls:=by
 have T':=T.up (w':=w')
 have z:=Le.size (a:=w) (b:=w')
 have e:∀{j},j<W→updR RW W (fun i=>w.heap.size≤i∧i<w'.heap.size) j=RW j:=fun {j} h=>if_neg (by omega)
 have eW:updR RW W (fun i=>w.heap.size≤i∧i<w'.heap.size) W=fun i=>w.heap.size≤i∧i<w'.heap.size:=if_pos rfl
 refine⟨fun k j hk hj hne i hi=>?_,fun k hk=>?_,fun k hk i hi=>?_⟩
 ·by_cases h1:k=W
  ·subst h1
   rw [eW] at hi
   rw [e (show j<k by omega)]
   intro h2;have:=T.lt j (by omega) i h2;omega
  ·rw [e (show k<W by omega)] at hi
   by_cases h2:j=W
   ·subst h2
    rw [eW]
    intro h3;have:=T.lt k (by omega) i hi;omega
   ·rw [e (show j<W by omega)];exact T.dis k j (by omega) (by omega) hne i hi
 ·by_cases h1:k=W
  ·subst h1
   rw [eW,hL]
   simp only [if_true];exact S
  ·rw [e (show k<W by omega)]
   simp only [if_neg h1];exact T'.sto k (by omega)
 ·by_cases h1:k=W
  ·subst h1;rw [eW] at hi;exact hi.2
  ·rw [e (show k<W by omega)] at hi;exact T'.lt k (by omega) i hi
theorem zND(g:GrD)(W n k:Nat):wkS g W (List.replicate n none) k=[]:=by
 unfold wkS allS
 rw [List.filter_eq_nil_iff]
 intro x hx
 have q_:=List.mem_flatMap.1 hx
 obtain⟨j,_,h⟩:=q_
 rw [List.getD_eq_getElem?_getD,List.getElem?_replicate] at h
 split at h <;> cases h
def zSrvK (bj jc:Nat) (xr:RRow) (r:List EdN) (ws:SV) (wl:List ByteArray) (ps:List RPo):SrvK:=⟨bj,jc,xr,r,ws,wl,ps,⟨none,0,0⟩,fun _=>0,fun _=>0⟩
set_option maxHeartbeats 4000000 in
theorem zH9{x:RCfg}{f:List UInt8}(hf:f.length≤4611686018427387904):
  Sp PP F.y4 #[agg x,txt f] w fun v w'=>((¬cfgOk x∧v=.tuple #[.pointer none,.int .i64 1])∨(cfgOk x∧imgOf f=none∧v=.tuple #[.pointer none,.int .i64 30]) ∨
   ∃g bs,cfgOk x∧imgOf f=some g∧v=.tuple #[.pointer (some ⟨bs,0,none⟩),.int .i64 0]∧SrvP (fun i=>w.heap.size≤i∧i<w'.heap.size) w.heap.size w' bs g (cfOf x) (newS (cfOf x)))∧Stp w w':=by
 obtain⟨xw,xs,xq,xp,xb⟩:=x
 refine en TBok rfl ?_
 refine rbx fun bc w1 n1 C1=>?_
 refine rld (B:=C1) rfl ?_
 refine rcall (zJb (n:=xs)) ?_
 rintro _ w2 ⟨⟨v2,rfl,O2⟩,e2⟩
 by_cases hxs:xs<1∨64<xs
 ·have hnew:newH xs=([],1):=if_pos hxs
  rw [hnew] at O2 ⊢
  refine ite (fun _=>?_) (fun h=>absurd (by first|omega|decide|(dsimp only <;> omega)) h)
  exact⟨.inl ⟨fun h=>by have h1:1≤xs∧xs≤64:=h.2.1;omega,rfl⟩,stp⟩
 have hnew:newH xs=(List.replicate xs.toNat zeroH,0):=if_neg hxs
 rw [hnew] at O2 ⊢
 refine ite (fun h=>absurd rfl h) (fun _=>?_)
 refine rld (B:=C1) rfl ?_
 refine rcall zAY ?_
 rintro _ w3 ⟨⟨rfl,hw1⟩|⟨rfl,hw1⟩,rfl⟩
 case' inr=>exact⟨.inl ⟨fun h=>hw1 h.1,rfl⟩,stp⟩
 refine rld (B:=C1) rfl ?_
 refine rcall zAY ?_
 rintro _ w3 ⟨⟨rfl,hw2⟩|⟨rfl,hw2⟩,rfl⟩
 case' inr=>exact⟨.inl ⟨fun h=>hw2 h.2.2.1,rfl⟩,stp⟩
 refine rld (B:=C1) rfl ?_
 refine rcall zAY ?_
 rintro _ w3 ⟨⟨rfl,hw3⟩|⟨rfl,hw3⟩,rfl⟩
 case' inr=>exact⟨.inl ⟨fun h=>hw3 h.2.2.2.1,rfl⟩,stp⟩
 refine rld (B:=C1) rfl ?_
 refine rcall zAY ?_
 rintro _ w3 ⟨⟨rfl,hw4⟩|⟨rfl,hw4⟩,rfl⟩
 case' inr=>exact⟨.inl ⟨fun h=>hw4 h.2.2.2.2,rfl⟩,stp⟩
 have hw1:1≤xw∧xw≤16:=hw1
 have hw2:1≤xq∧xq≤1000:=hw2
 have hw3:1≤xp∧xp≤400:=hw3
 have hw4:1≤xb∧xb≤1000:=hw4
 have hcfg:cfgOk ⟨xw,xs,xq,xp,xb⟩:=⟨hw1,by dsimp only;omega,hw2,hw3,hw4⟩
 have hco:=zGR hcfg
 have q_:=Int.eq_ofNat_of_zero_le (show (0:Int)≤xw by omega)
 obtain⟨W,rfl⟩:=q_
 have q_:=Int.eq_ofNat_of_zero_le (show (0:Int)≤xs by omega)
 obtain⟨N,rfl⟩:=q_
 have q_:=Int.eq_ofNat_of_zero_le (show (0:Int)≤xq by omega)
 obtain⟨Q,rfl⟩:=q_
 have q_:=Int.eq_ofNat_of_zero_le (show (0:Int)≤xp by omega)
 obtain⟨P,rfl⟩:=q_
 have q_:=Int.eq_ofNat_of_zero_le (show (0:Int)≤xb by omega)
 obtain⟨U,rfl⟩:=q_
 have C1:Bk w1 bc [.int .i64 (W:Int),.int .i64 (N:Int),.int .i64 (Q:Int),.int .i64 (P:Int),.int .i64 (U:Int)] E.qm:=C1
 have hcf:cfOf ⟨W,N,Q,P,U⟩=⟨W,N,Q,P,U⟩:=by simp [cfOf]
 rw [hcf] at hco
 rw [Int.toNat_natCast] at O2
 have q_:=O2.shape
 obtain⟨a2,c2,rfl⟩:=q_
 have hl2:(List.replicate N zeroH).length=N:=by simp
 refine rcall (zGY hf) ?_
 rintro _ w4 ⟨⟨g,gx,vs,him,rfl,V4⟩|⟨him,rfl⟩,e4⟩
 case' inr =>
  refine ral fun bg w5 n5 G5=>?_
  refine rsto (B:=G5) (vs:=enc zGr) rfl rfl rfl (Enc.one _) fun w6 G6 f6 _=>?_
  have s6:Stp w4 w6:=⟨Fr.st Le.e f6 fun i hi=>by subst hi;exact n5.lo⟩
  clear G5 f6
  refine ite (fun _=>?_) (fun h=>absurd (by first|omega|decide|(dsimp only <;> omega)) h)
  exact⟨.inr (.inl ⟨hcfg,him,rfl⟩),stp⟩
 have hgi:=zL7 him
 refine ral fun bg w5 n5 G5=>?_
 refine rsto (B:=G5) (vs:=enc gx) rfl rfl rfl (Enc.one _) fun w6 G6 f6 _=>?_
 have G6:Bk w6 bg (enc gx) E.qe:=G6
 have s6:Stp w4 w6:=⟨Fr.st Le.e f6 fun i hi=>by subst hi;exact n5.lo⟩
 clear G5 f6
 refine ite (fun h=>absurd rfl h) (fun _=>?_)
 refine drawR TBok mixed (fun _=>False) (upF 8 0) (by kernel_rfl) fun w7 e7 _=>?_
 refine tldG (ds:=enc (⟨W,N,Q,P,U⟩:RCfg)) (B:=C1) rfl rfl not_false ?_
 refine tld (B:=C1) rfl not_false ?_
 refine rmk zJob rfl rfl (by omega) fun bj w8 OJ s8 hbj=>⟨s8.e,?_⟩
 refine tbuild (cs:=srvL ⟨W,N,Q,P,U⟩ (zSrvK bj N ⟨⟨none,0,0⟩,⟨none,0,0⟩,⟨none,0,0⟩,⟨none,0,0⟩⟩ [] ⟨none,0,0⟩ [] []) ⟨none,0,0⟩ ⟨a2,(List.replicate N zeroH).length,c2⟩) (by rw [hl2];rfl) ?_
 refine rbx fun bs w9 n9 S9=>⟨n9.e,?_⟩
 have b1:=n1.b;have l1:=n1.lt
 have b9:=n9.b;have l9:=n9.lt
 have z8:=Le.size (a:=w) (b:=w8)
 have z78:=Le.size (a:=w) (b:=w7)
 have hbj9:bj<bs:=by
  have h1:=OJ.lt (by intro h;have:=congrArg List.length h;simp at this;omega)
  obtain⟨gq,h1,_,h3⟩:=h1
  have h4:bj=gq:=Option.some.inj h1
  omega
 refine rldG (ds:=enc gx) (B:=G6) rfl (Enc.len _) ?_
 refine rcall (zI5 (V4.up (w':=w9)) hgi) ?_
 rintro _ w10 ⟨⟨y,r,rfl,RO⟩,e10⟩
 refine ral fun br w11 n11 R11=>?_
 refine rsto (B:=R11) (vs:=enc y) rfl rfl rfl (Enc.one _) fun w12 R12 f12 _=>?_
 have R12:Bk w12 br (enc y) E.qw:=R12
 have s12:Stp w10 w12:=⟨Fr.st Le.e f12 fun i hi=>by subst hi;exact n11.lo⟩
 have hbr:=n11.lo (u:=w9)
 clear R11 f12
 refine rldG (ds:=enc gx) (B:=G6) rfl (Enc.len _) ?_
 refine rcall (zGA (V4.up (w':=w12)) hgi) ?_
 rintro _ w13 ⟨⟨pa,pc,ps,wl,rfl,PM,_,hpn,OP,OPs⟩,e13⟩
 refine rldG (ds:=enc y) (B:=R12) rfl (Enc.len _) ?_
 have z10:=e10.e.size
 have z12:=Le.size (a:=w10) (b:=w12)
 have z13:=e13.e.size
 refine rsto (B:=S9) (vs:=enc y) rfl rfl rfl (Enc.one _) fun w14 S14 f14 _=>?_
 refine rsto (B:=S14) (vs:=[.slice pa ps.length pc]) rfl rfl rfl (sv1 _ _ _) fun w15 S15 f15 _=>?_
 have q_:∃K:SrvK,K=zSrvK bj N y r ⟨pa,ps.length,pc⟩ wl ps:=⟨_,rfl⟩
 obtain⟨K,hK⟩:=q_
 have S15:Bk w15 bs (srvL ⟨W,N,Q,P,U⟩ K ⟨none,0,0⟩ ⟨a2,(List.replicate N zeroH).length,c2⟩) E.qk:=by
  rw [hK];exact S15
 clear S14 S9
 have f1315:Fr (fun i=>i=bs) w13 w15:=f14.trans f15
 have z15:=f1315.size
 have s15:Stp w8 w15:=⟨Fr.st (Le.e (a:=w8) (b:=w13)) f1315 fun i hi=>by omega⟩
 refine rld (B:=C1) rfl ?_
 refine cnt TBok 82 [4,5,14,15] 82 W (fun j u=>∃(wa:Option Addr) (wc:Nat) (sb sg:Nat→Nat) (RW:Nat→Nat→Prop),
   Own w.heap.size E.yc u (.slice wa j wc) ((List.range j).map fun k=>(⟨sb k⟩:RPtr)) ∧
   Bk u bs (srvL ⟨W,N,Q,P,U⟩ { K with wk:=⟨wa,j,wc⟩ } ⟨none,0,0⟩ ⟨a2,(List.replicate N zeroH).length,c2⟩) E.qk ∧
   Stos w.heap.size u j { K with sb:=sb,sg:=sg } P RW (fun _=>[])∧(∀k,k<j→∀i,RW k i→w15.heap.size≤i) ∧
   (∀b,Value.blk (.slice wa j wc)=some b→w15.heap.size≤b∧b<u.heap.size∧∀k,k<j→¬RW k b)∧Fr (fun i=>i=bs) w15 u) rfl rfl
  ⟨none,0,fun _=>0,fun _=>0,fun _ _=>False,Own.nil _ _ _,by rw [hK] at S15 ⊢;exact S15,⟨fun k j hk=>by omega,fun k hk=>by omega,fun k hk=>by omega⟩,(fun k hk=>by omega),(fun b hb=>by cases hb),Fr.refl _ _⟩ ?_
 rintro j G u hj ⟨wa,wc,sb,sg,RW,OW,Su,T,hlo,hblk,f⟩
 have zu:=f.size
 have su:Stp w8 u:=⟨Fr.st (Le.e (a:=w8) (b:=w15)) f fun i hi=>by omega⟩
 refine ite (fun hlt=>?_) (fun hge=>?_)
 ·have hja:j<W:=Int.ofNat_lt.1 hlt
  refine rld (B:=C1) rfl ?_
  refine rcall (zJg (size:=(P:Int))) ?_
  rintro _ u1 ⟨⟨hno,_⟩|⟨N',b,gs,hN',_,_,rfl,SN⟩,e1⟩
  ·omega
  have q_:P=N':=by omega
  obtain rfl:=q_
  have z1:=e1.e.size
  refine ite (fun h=>absurd rfl h) (fun _=>?_)
  refine rld (B:=Su) rfl ?_
  refine rbs1 (⟨b⟩:RPtr) rfl rfl (by decide) fun b2 u2 n2 _ S2=>?_
  have z2:=n2.e.size
  refine rappD ⟨rfl,rfl⟩ (OW.up (w':=u2)) S2 (by simp) (by omega) (by simp;omega) fun v3 u3 O3 f3 hv3=>?_
  have hv3:Value.blk v3=Value.blk (.slice wa j wc)∨Value.blk v3=some u2.heap.size:=hv3
  have f3:Fr (ownD w.heap.size (.slice wa j wc)) u2 u3:=f3
  have z3:=f3.size
  have hv:∀b,ownD w.heap.size (.slice wa j wc) b→w15.heap.size≤b∧b<u.heap.size∧∀k,k<j→¬RW k b:=fun b hb=>hblk b hb.2.1
  have hbsl:bs<w15.heap.size:=by omega
  have Su2:=(Su.mv (w:=u2)).fr f3 fun h=>by have:=hv _ h;omega
  have hl3:((List.range j).map (fun k=>(⟨sb k⟩:RPtr))++[(⟨b⟩:RPtr)]).length=j+1:=by simp
  have hsh:∃a c,v3=.slice a (j+1) c:=by
   have h:=O3.shape
   rw [hl3] at h;exact h
  obtain⟨a3,c3,hv3e⟩:=hsh
  subst hv3e
  refine rsto (B:=Su2) (vs:=[.slice a3 (j+1) c3]) rfl rfl rfl (sv1 _ _ _) fun u4 S4 f4 _=>?_
  have S4:Bk u4 bs (srvL ⟨W,N,Q,P,U⟩ { K with wk:=⟨a3,j+1,c3⟩ } ⟨none,0,0⟩ ⟨a2,(List.replicate N zeroH).length,c2⟩) E.qk:=S4
  have z4:=f4.size
  have hb3:∀b',Value.blk (.slice a3 (j+1) c3)=some b'→w15.heap.size≤b'∧b'<u3.heap.size∧(∀k,k<j→¬RW k b')∧¬(u.heap.size≤b'∧b'<u1.heap.size):=fun b' hb'=>by
   have q_:=O3.lt (by simp)
   obtain⟨gq,g1,_,g3⟩:=q_
   rw [hb'] at g1;cases g1
   rcases hv3 with h|h
   ·rw [hb'] at h
    have:=hblk b' h.symm
    exact⟨this.1,g3,this.2.2,by omega⟩
   ·rw [hb'] at h;cases h
    exact⟨by omega,g3,fun k hk h2=>by have:=T.lt k hk _ h2;omega,by omega⟩
  have k1:Own w.heap.size E.yc u4 (.slice a3 (j+1) c3) ((List.range (j+1)).map fun k=>(⟨(fun k=>if k=j then b else sb k) k⟩:RPtr)):=by
   have e:((List.range (j+1)).map fun k=>(⟨(fun k=>if k=j then b else sb k) k⟩:RPtr))=(List.range j).map (fun k=>(⟨sb k⟩:RPtr))++[(⟨b⟩:RPtr)]:=by
    rw [List.range_succ,List.map_append]
    congr 1
    ·apply List.map_congr_left
     intro k hk
     have:=List.mem_range.1 hk
     dsimp only
     rw [if_neg (by omega)]
    ·simp
   rw [e]
   exact O3.fr f4 fun b' _ hb' h=>by have:=hb3 b' hb';omega
  have T1:=(Stos.add (L:=[]) (Ls:=fun _=>[]) T (SN.low (by omega)) rfl)
  have T4:Stos w.heap.size u4 (j+1) { K with sb:=fun k=>if k=j then b else sb k,sg:=fun k=>if k=j then gs else sg k } P (updR RW j fun i=>u.heap.size≤i∧i<u1.heap.size) (fun _=>[]):=by
   refine((T1.up (w':=u2)).away f3 fun k hk i hi h=>?_).away f4 fun k hk i hi h=>?_
   ·have h5:=hv i h
    unfold updR at hi
    split at hi
    ·omega
    ·exact h5.2.2 k (by omega) hi
   ·unfold updR at hi
    split at hi
    ·omega
    ·have:=hlo k (by omega) i hi;omega
  have k4:∀k,k<j+1→∀i,updR RW j (fun i=>u.heap.size≤i∧i<u1.heap.size) k i→w15.heap.size≤i:=fun k hk i hi=>by
   unfold updR at hi
   split at hi
   ·omega
   ·exact hlo k (by omega) i hi
  have k5:∀b',Value.blk (.slice a3 (j+1) c3)=some b'→w15.heap.size≤b'∧b'<u4.heap.size∧∀k,k<j+1→¬updR RW j (fun i=>u.heap.size≤i∧i<u1.heap.size) k b':=fun b' hb'=>by
   have h5:=hb3 b' hb'
   refine⟨h5.1,by omega,fun k hk hi=>?_⟩
   unfold updR at hi
   split at hi
   ·exact h5.2.2.2 hi
   ·exact h5.2.2.1 k (by omega) hi
  have k6:Fr (fun i=>i=bs) w15 u4:=(f.join ((Fr.fr (D:=ownD w.heap.size (.slice wa j wc)) (Le.e (a:=u) (b:=u2))).trans f3) (fun _ _ h=>h) fun i hi h=>by have:=hv i h;omega).trans f4
  clear O3 f3 hv3 hv hb3 T1 Su2 OW
  exact rar (by omega) ⟨rfl,hja,a3,c3,_,_,_,k1,S4,T4,k4,k5,k6⟩
 ·have hjW:j=W:=by have h5:=Int.ofNat_le.1 (Int.not_lt.1 hge);exact Nat.le_antisymm hj h5
  subst hjW
  have hR:∀{C:Nat},w.heap.size≤C→∀{lim:Nat},lim≤w15.heap.size→(∀i,C≤i→i<lim→¬i=bs∧¬i=bj)→∀i,C≤i→i<lim→(w.heap.size≤i∧i<u.heap.size)∧¬mutS bs bj j RW i:=fun {C} hC {lim} hl hn i h1 h2=>by
   refine⟨by omega,fun h=>?_⟩
   rcases h with h|h|⟨k,hk,h⟩
   ·exact(hn i h1 h2).1 h
   ·exact(hn i h1 h2).2 h
   ·have:=hlo k hk i h;omega
  have hKj:K.bj=bj:=by rw [hK];rfl
  have f13u:Fr (fun i=>i=bs) w13 u:=f1315.trans f
  have rowF:∀{α:Type} [Enc α] {e:TypeId} {C:Nat} {v:Value} {l:List α} {u0:World},Own C e u0 v l→Le w9 u0→u0.heap.size≤w13.heap.size→w9.heap.size≤C→Own C e w13 v l→Fz (mutS bs bj j RW) (fun i=>w.heap.size≤i∧i<u.heap.size) u fun u=>SlF u v l:=fun {α _ e C v l u0} O L0 hz hC O13 =>
   O.fzB (O13.fr f13u fun b hb _ h=>by omega).sl (hR (by omega) (by omega) fun i h1 h2=>by omega)
  have Zoff:=rowF RO.off inferInstance (by omega) (Nat.le_refl _) (RO.off.up (w':=w13))
  have Zto:=rowF RO.to inferInstance (by omega) (Nat.le_refl _) (RO.to.up (w':=w13))
  have Zrof:=rowF RO.rof inferInstance (by omega) (Nat.le_refl _) (RO.rof.up (w':=w13))
  have Zrev:=rowF RO.rev inferInstance (by omega) (Nat.le_refl _) (RO.rev.up (w':=w13))
  have Zps:=rowF OP inferInstance (Nat.le_refl _) (by omega) OP
  have Zpl:∀i (h:i<ps.length) (h':i<wl.length),Fz (mutS bs bj j RW) (fun i=>w.heap.size≤i∧i<u.heap.size) u fun u=>SlF u ps[i].pl.v (plOf g wl[i]):=fun i h h'=>rowF (OPs i h h') inferInstance (Nat.le_refl _) (by omega) (OPs i h h')
  have Zhd:Fz (mutS bs bj j RW) (fun i=>w.heap.size≤i∧i<u.heap.size) u fun u=>SlF u (.slice a2 (List.replicate N zeroH).length c2) (List.replicate N zeroH):=by
   have z2:=Le.size (a:=w3) (b:=w7)
   have O13:=((O2.up (w':=w13)).fr f13u fun b _ hb h=>by
    obtain⟨gq,g1,_,g3⟩:=O2.lt (by intro h;have:=congrArg List.length h;simp at this;omega)
    rw [hb] at g1;cases g1
    omega)
   exact O2.fzB O13.sl (hR (by have:=Le.size (a:=w) (b:=w1);omega) (by omega) fun i h1 h2=>by omega)
  have Ju:Own w.heap.size E.qz u (.slice (some ⟨bj,0,none⟩) N N) (List.replicate N zJob):=((OJ.up (w':=w13)).fr f13u fun b _ hb h=>by
   have:bj=b:=Option.some.inj hb
   omega).mono (by omega)
  refine⟨.inr (.inr ⟨g,bs,hcfg,him,rfl,?_⟩),stp⟩
  rw [hcf]
  refine⟨{ K with wk:=⟨wa,j,wc⟩,sb:=sb,sg:=sg },⟨none,0,0⟩,⟨a2,(List.replicate N zeroH).length,c2⟩,[],List.replicate N zeroH,List.replicate N zJob,RW,?_⟩
  subst hK
  refine⟨fun i hi=>hi,by omega,?_,?_,fun k hk i hi=>?_,Su,Ju,⟨T.dis,fun k hk=>by rw [show (newS ⟨j,N,Q,P,U⟩).held=List.replicate N none from rfl,zND];exact T.sto k hk,T.lt⟩,fun u' f'=>?_,hgi,hco,hpn,new_ok g _⟩
  ·show w.heap.size≤bj∧bj<u.heap.size
   omega
  ·show bs≠bj
   omega
  ·have h1:=hlo k hk i hi
   have h2:=T.lt k hk i hi
   exact⟨by omega,by omega,by show i≠bj;omega⟩
  ·refine⟨⟨RO.rev',Zoff u' f',Zto u' f',Zrof u' f',Zrev u' f'⟩,⟨PM.ris,PM.all,PM.len,fun i h h'=>⟨(PM.at' i h h').1,Zpl i h h' u' f'⟩⟩,Zps u' f',OW.sl.fr f' fun b hb hd=>?_,SlF.nil _,Zhd u' f',rfl,fun i h=>absurd h (Nat.not_lt_zero _),by simp [newS],by simp [newS],fun k h h'=>?_⟩
   ·have h1:=hblk b hb
    rcases hd with hd|hd
    ·rcases hd with hd|hd|⟨k,hk,hd⟩
     ·omega
     ·have hd:b=bj:=hd
      omega
     ·exact h1.2.2 k hk hd
    ·exact hd ⟨by omega,h1.2.1⟩
   ·have e:(newS ⟨j,N,Q,P,U⟩).held.getD k none=none:=by
     show (List.replicate N none).getD k none=none
     rw [List.getD_eq_getElem?_getD,List.getElem?_replicate];split <;> rfl
    rw [e]
    show ((List.replicate N zeroH)[k]).used=false
    simp [zeroH]
end
end Go.W
namespace Go.W
open Go
variable {B N i j k m n n2 n3:Nat} {P:Program} {R:Nat → Prop} {a a2 a3:Option Addr} {g:GrD} {ps:List Int} {q:QyD} {u u' w w' w1 w2:World}
section
variable {g:GrD} {c:CfD}
end
theorem rdB(h:n<128)(t:List UInt8):rdN (UInt8.ofNat n::t)=some (n,t):=by
 have:=zNa (n:=n) (by omega) t
 rwa [numB_lt h] at this
def im0:List UInt8:=[119,103,2,1,1,0,0,0]
def g0:GrD:=⟨2,[⟨0,1⟩],[[],[]]⟩
def c0:CfD:=⟨1,1,1,9,9⟩
theorem g0_is:GrIs g0:=by
 refine⟨⟨by decide,by decide,by decide⟩,by decide,rfl,?_,by simp [g0],?_⟩
 ·intro l hl
  have:l=[]:=by simpa [g0] using hl
  subst this;simp
 ·intro l hl
  have:l=[]:=by simpa [g0] using hl
  subst this;exact .nil
theorem im0_rd:rdI im0=some (2,[([1],[]),([],[])],[]):=by
 have e1:rdN [2,1,1,0,0,0]=some (2,[1,1,0,0,0]):=rdB (n:=2) (by decide) _
 have e2:rdN [1,1,0,0,0]=some (1,[1,0,0,0]):=rdB (n:=1) (by decide) _
 have e3:rdN [1,0,0,0]=some (1,[0,0,0]):=rdB (n:=1) (by decide) _
 have e4:rdN [0,0,0]=some (0,[0,0]):=rdB (n:=0) (by decide) _
 have e5:rdN [0,0]=some (0,[0]):=rdB (n:=0) (by decide) _
 have e6:rdN [0]=some (0,[]):=rdB (n:=0) (by decide) _
 show (match rdN [2,1,1,0,0,0] with
  |some (n,t)=>if n≤200 then (match rdMany rdPl n t with|some (ps,u)=>some (n,ps,u)|none=>none) else none
  |none=>none)=_
 rw [e1]
 simp [rdMany,rdPl,rdRow,rdWs,e2,e3,e4,e5,e6]
theorem im0_g:imgOf im0=some g0:=by
 unfold imgOf
 rw [im0_rd]
 exact if_pos ⟨rfl,g0_is⟩
def q7:QyD:=⟨1,0,1,[],0,0⟩
def x7:RqD:=⟨7,1,q7⟩
def x8:RqD:=⟨8,1,q7⟩
theorem q7_is(n:Int)(h:2≤n):QyIs q7 n:=⟨.inl rfl,⟨by decide,by show (0:Int)<n;omega⟩,fun _=>⟨by decide,by show (1:Int)<n;omega⟩,fun h=>by simp [q7] at h⟩
theorem rq_is{id:Int}(h:0≤id∧id≤2147483647):RqIs ⟨id,1,q7⟩:=⟨.inr ⟨rfl,q7_is 200 (by decide)⟩,h,by
 show (if (1:Int)=4 then q7=zQy else if (1:Int)=3 then q7.to=0 else q7.words=[]∧q7.rad=0∧q7.most=0)
 rw [if_neg (by decide),if_neg (by decide)];exact⟨rfl,rfl,rfl⟩⟩
theorem rd7(h:n<128):rdR [UInt8.ofNat n,1,0,1]=some (⟨n,1,q7⟩,[]):=by
 have e1:rdN [UInt8.ofNat n,1,0,1]=some (n,[1,0,1]):=rdB h _
 have e2:rdN [1,0,1]=some (1,[0,1]):=rdB (n:=1) (by decide) _
 have e3:rdN [0,1]=some (0,[1]):=rdB (n:=0) (by decide) _
 have e4:rdN [1]=some (1,[]):=rdB (n:=1) (by decide) _
 unfold rdR
 rw [e1];dsimp only
 rw [e2];dsimp only
 rw [if_pos (by decide),if_neg (by decide)]
 unfold rdQ
 rw [e3];dsimp only
 rw [if_pos (by decide),e4];rfl
theorem req7:reqOf [7,1,0,1]=some x7:=by
 have e:rdR [7,1,0,1]=some (x7,[]):=rd7 (n:=7) (by decide)
 unfold reqOf;rw [e];exact if_pos (rq_is (by decide))
theorem req8:reqOf [8,1,0,1]=some x8:=by
 have e:rdR [8,1,0,1]=some (x8,[]):=rd7 (n:=8) (by decide)
 unfold reqOf;rw [e];exact if_pos (rq_is (by decide))
theorem come7:comeS g0 c0 (newS c0) [7,1,0,1]=(⟨[x7],[none]⟩,none):=by
 have e:askS g0 c0 (newS c0) x7 (QyIs x7.q g0.n)=(⟨[x7],[none]⟩,0):=by
  unfold askS;rw [if_pos (show QyIs x7.q (g0.n:Int) from q7_is 2 (by decide))];rfl
 unfold comeS;rw [req7];dsimp only
 rw [if_neg (by decide),e];rfl
theorem enc252:repB 8 252 zAn=[8,252,1]:=by
 have h:RepOk (repOf 8 252 zAn) zAn.hits:=zFH (by decide) (by decide)
 unfold repB
 rw [if_pos h]
 have e1:numB 8=[8]:=numB_lt (by decide)
 have e2:numB 252=[252,1]:=by rw [zBB (by decide),numB_lt (by decide)];rfl
 simp [encR,repOf,numsB,e1,e2]
theorem come8:comeS g0 c0 ⟨[x7],[none]⟩ [8,1,0,1]=(⟨[x7],[none]⟩,some [8,252,1]):=by
 have e:askS g0 c0 ⟨[x7],[none]⟩ x8 (QyIs x8.q g0.n)=(⟨[x7],[none]⟩,252):=by
  unfold askS;rw [if_pos (show QyIs x8.q (g0.n:Int) from q7_is 2 (by decide))];rfl
 unfold comeS;rw [req8];dsimp only
 rw [if_neg (by decide),e];dsimp only
 rw [if_neg (by decide),←enc252];rfl
section
variable {g:GrD} {c:CfD}
theorem zHX{s:SvD}{l:List RqD}{h h':Hs}{o:Option (List UInt8)}(ha:admitS s.wait s.held=(l,h))(hu:usedS h=[0])(hs:(stepS g c h 0).1=h')(ho:(stepS g c h 0).2=o):tickS g c s=(⟨l,h'⟩,o.toList):=by
 unfold tickS
 rw [ha];dsimp only
 rw [hu]
 show ((⟨l,(stepS g c h 0).1⟩:SvD),(stepS g c h 0).2.toList++[])=_
 rw [hs,ho,List.append_nil]
end
def h0 (j:Nat):Hs:=[some (x7,j)]
theorem tick7a:tickS g0 c0 ⟨[x7],[none]⟩=(⟨[],h0 1⟩,[]):=by
 have e:(h0 0).getD 0 none=some (x7,0):=rfl
 have q_:=zDo (g:=g0) (c:=c0) e (by decide) (by decide) (by decide)
 obtain⟨q1,q2⟩:=q_
 have q3:=(zDT (g:=g0) (c:=c0) (h0 0) 0).1
 rw [q1] at q3
 exact zHX (h:=h0 0) (o:=none) rfl rfl q2 q3
theorem done7:doneL g0 q7 (sts g0 q7 0 2) (mls g0 q7 0 2)=(⟨true,1,[]⟩,true):=by decide
theorem enc7:bytR (7,0,⟨true,1,[]⟩)=[7,0,1,1,0]:=by
 have h:RepOk (repOf 7 0 ⟨true,1,[]⟩) []:=⟨by decide,by decide,by decide,by decide,by simp [repOf],by simp [repOf],by simp,by simp⟩
 unfold bytR repB
 rw [if_pos h]
 have e1:numB 7=[7]:=numB_lt (by decide)
 have e2:numB 0=[0]:=numB_lt (by decide)
 have e3:numB 1=[1]:=numB_lt (by decide)
 simp [encR,repOf,numsB,hitsB,e1,e2,e3]
theorem tick7b:tickS g0 c0 ⟨[],h0 1⟩=(⟨[],[none]⟩,[[7,0,1,1,0]]):=by
 have e:(h0 1).getD 0 none=some (x7,1):=rfl
 have hd:doneL g0 x7.q (sts g0 x7.q (0:Nat) (1+1)) (mls g0 x7.q (0:Nat) (1+1))=(⟨true,1,[]⟩,true):=done7
 have q_:=zB4 (g:=g0) (c:=c0) e (by decide) (by rw [hd])
 obtain⟨q1,q2⟩:=q_
 have q3:=(zDT (g:=g0) (c:=c0) (h0 1) 0).1
 rw [q1,hd] at q3
 have q4:(stepS g0 c0 (h0 1) 0).2=some [7,0,1,1,0]:=by rw [q3,←enc7];rfl
 exact zHX (h:=h0 1) rfl rfl q2 q4
theorem tick7c:tickS g0 c0 ⟨[],[none]⟩=(⟨[],[none]⟩,[]):=rfl
theorem live7:((List.range 1).map fun k=>(liveW g0 1 [none] k:Int))=[0]:=by decide
end Go.W
namespace Go.W
open Go Go.Proofs
open Enc (enc)
set_option maxRecDepth 10000
variable {B N i j k m n n2 n3:Nat} {P:Program} {R:Nat → Prop} {a a2 a3:Option Addr} {g:GrD} {ps:List Int} {q:QyD} {u u' w w' w1 w2:World}
theorem SrvP.stw{bs:Nat}{c:CfD}{s:SvD}(S:SrvP R B w bs g c s)(f:Fr R w w')(h:u.heap.size≤B):Stw u w w':=f.stw fun i hi=>Nat.le_trans h ((SrvX.reg S).1 i hi).1
structure REv where
 tick:Bool
 frame:List UInt8
 picks:SV
instance:Enc REv:=⟨3,fun x=>[.bool x.tick,txt x.frame,.slice x.picks.a x.picks.n x.picks.c],fun _=>rfl,by intro x u hu;simp at hu;rcases hu with rfl|rfl|rfl <;> rfl,by decide⟩
def EvsM (w:World) (l:List REv):Prop:=∀y∈l,∃ps:List Int,SlF w y.picks.v ps
theorem EvsM.up[Le w w']{l:List REv}(h:EvsM w l):EvsM w' l:=fun y hy=>let ⟨ps,hp⟩:=h y hy;⟨ps,hp.up⟩
def EvsS (l:List REv):Prop:=l.length≤80∧∀y∈l,y.frame.length≤300∧y.picks.n≤60
theorem zKU{c:Nat}{l:List REv}(h:SlF w (.slice a n c) l):Sp PP F.yz #[.slice a n c] w fun v w'=>(v=.bool true∨(v=.bool false∧EvsS l))∧Stp w w':=by
 have q_:=h.len
 obtain rfl:=q_
 refine en TBok rfl ?_
 refine cnt TBok 4 [2] 3 l.length (fun k u=>(k=0∨l.length≤80)∧(∀y∈l.take k,y.frame.length≤300∧y.picks.n≤60)∧Stp w u) rfl rfl ⟨.inl rfl,by simp,stp⟩ ?_
 rintro k g u hk ⟨h80,hm,su⟩
 have fin:(l.length≤80→k=l.length)→IteC ((80:Int)<l.length) ((Value.bool true=Value.bool true∨(Value.bool true=Value.bool false∧EvsS l))∧Stp w u) ((Value.bool false=Value.bool true∨(Value.bool false=Value.bool false∧EvsS l))∧Stp w u):=by
  intro hf
  refine ite (fun h=>⟨.inl rfl,su⟩) (fun h=>⟨.inr ⟨rfl,by omega,?_⟩,su⟩)
  have:=hf (by omega)
  subst this
  simpa using hm
 refine ite (fun hlt=>?_) (fun hge=>?_)
 ·refine ite (fun h2=>?_) (fun h2=>?_)
  ·have hk1:k<l.length:=by omega
   have hi:l[k]? = some l[k]:=by simp
   refine rix (i:=k) (h.up (w':=u)) hi fun b2 o2 A2=>?_
   refine rload1 (A2.cell 1 rfl) ?_
   refine ite (fun h3=>?_) (fun h3=>?_)
   ·exact⟨.inl rfl,stp⟩
   ·refine rix (i:=k) (h.up (w':=u)) hi fun b4 o4 A4=>?_
    refine rload1 (A4.cell 2 rfl) ?_
    refine ite (fun h5=>?_) (fun h5=>?_)
    ·exact⟨.inl rfl,stp⟩
    ·refine rar (by omega) ⟨rfl,hk1,.inr (by omega),fun y hy=>?_,stp⟩
     rw [List.take_add_one,hi] at hy
     simp only [Option.toList_some,List.mem_append,List.mem_singleton] at hy
     rcases hy with hy|rfl
     ·exact hm y hy
     ·rw [zAS] at h3
      constructor <;> omega
  ·exact fin (by omega)
 ·exact fin (by omega)
end Go.W
namespace Go.W
open Go Go.Proofs
open Enc (enc)
set_option maxRecDepth 100000
set_option warn.classDefReducibility false
variable {B N i j k m n n2 n3:Nat} {P:Program} {R:Nat → Prop} {a a2 a3:Option Addr} {g:GrD} {ps:List Int} {q:QyD} {u u' w w' w1 w2:World}
noncomputable instance:Rd PP E.qc ByteArray:=rdStr (by kernel_rfl) (by kernel_rfl)
noncomputable instance:Rd PP E.q2 Bool:=rdBool (by kernel_rfl) (by kernel_rfl)
noncomputable instance:Rd PP E.qy SV:=rdSl (α:=Int) (e:=E.qa) (by kernel_rfl) (by kernel_rfl)
noncomputable instance:Rd PP E.qm RCfg where
 G _ _:=True
 cells:=by kernel_rfl
 rd:=by
  intro H eH w sp fuel cs x hx
  have q_:=zHP (P:=PP) (t:=E.qm) (fl:=[(E.qa,0,1),(E.qa,1,1),(E.qa,2,1),(E.qa,3,1),(E.qa,4,1)]) (n:=5) (by kernel_rfl) hx
  obtain⟨hl,hf⟩:=q_
  have q_:=zBf (P:=PP) (α:=Int) hf 0 rfl
  obtain⟨a0,h0,_⟩:=q_
  have q_:=zBf (P:=PP) (α:=Int) hf 1 rfl
  obtain⟨a1,h1,_⟩:=q_
  have q_:=zBf (P:=PP) (α:=Int) hf 2 rfl
  obtain⟨a2,h2,_⟩:=q_
  have q_:=zBf (P:=PP) (α:=Int) hf 3 rfl
  obtain⟨a3,h3,_⟩:=q_
  have q_:=zBf (P:=PP) (α:=Int) hf 4 rfl
  obtain⟨a4,h4,_⟩:=q_
  refine⟨⟨a0,a1,a2,a3,a4⟩,?_,trivial⟩
  have:=tile h0 (tile h1 (tile h2 (tile h3 (tile h4 (tile0 hl) rfl) rfl) rfl) rfl) rfl
  rw [List.drop_zero] at this
  rw [this];simp [enc]
noncomputable instance:Rd PP E.qo REv where
 G w y:=∃l:List Int,SlF w y.picks.v l
 cells:=by kernel_rfl
 rd:=by
  intro H eH w sp fuel cs x hx
  have q_:=zHP (P:=PP) (t:=E.qo) (fl:=[(E.q2,0,1),(E.qc,1,1),(E.qy,2,1)]) (n:=3) (by kernel_rfl) hx
  obtain⟨hl,hf⟩:=q_
  have q_:=zBf (P:=PP) (α:=Bool) hf 0 rfl
  obtain⟨a0,h0,_⟩:=q_
  have q_:=zBf (P:=PP) (α:=ByteArray) hf 1 rfl
  obtain⟨a1,h1,_⟩:=q_
  have q_:=zBf (P:=PP) (α:=SV) hf 2 rfl
  obtain⟨a2,h2,g2⟩:=q_
  obtain⟨l,hl2,_⟩:=g2
  refine⟨⟨a0,a1.data.toList,a2⟩,?_,l,hl2⟩
  have:=tile h0 (tile h1 (tile h2 (tile0 hl) rfl) rfl) rfl
  rw [List.drop_zero] at this
  rw [this];simp [enc]
theorem w_tail{H:Type}{t:TypeId}{ts:List TypeId}{d:DataW H}{r:List (DataW H)}{p:Nat→Bool}(h:(DataW.weightsEach P (t::ts) (d::r)).all p=true):(d.weights P t).all p=true∧(DataW.weightsEach P ts r).all p=true:=by
 simpa only [DataW.weightsEach,List.all_append,Bool.and_eq_true] using h
theorem zGO{W:World}{b:Nat}{v:Value}{H:Type}{eH:TypeId×Value→H}{d:DataW H}{ps:List MemPlace}(h:Value.okWide PP W .any b E.qm v)(ht:DataW.Trod eH PP W 0 (fun _=>true) true E.qm v d ps):
  ∃x:RCfg,v=agg x:=by
 obtain⟨fuel,hx⟩:=ht
 have q_:=Rd.rd (P:=PP) (t:=E.qm) (α:=RCfg) hx
 obtain⟨r,hc,_⟩:=q_
 exact⟨r,zMO h (by kernel_rfl) hc⟩
theorem zGP{W:World}{b:Nat}{v:Value}{H:Type}{eH:TypeId×Value→H}{d:DataW H}{ps:List MemPlace}(h:Value.okWide PP W .any b E.qc v)(ht:DataW.Trod eH PP W 0 (fun _=>true) true E.qc v d ps)
  (hw:(d.weights PP E.qc).all (·≤reachBytes)=true):∃f:List UInt8,v=txt f∧f.length≤4611686018427387904:=by
 obtain⟨fuel,hx⟩:=ht
 have q_:=DataW.trod_string (P:=PP) (t:=E.qc) (by kernel_rfl) hx
 obtain⟨s,hc,hxd,_⟩:=q_
 refine⟨s.data.toList,zEW h (by kernel_rfl) hc,?_⟩
 have hd:d=.lit (.string s.data.toList):=congrArg Prod.fst hxd
 rw [hd] at hw
 simp only [DataW.weights,List.all_cons,List.all_nil,Bool.and_true] at hw
 have h8:=of_decide_eq_true hw
 have hrb:reachBytes=140737488351232:=rfl
 rw [hrb] at h8
 omega
set_option warn.classDefReducibility false
theorem zNc{α:Type}[Enc α]{e:TypeId}(hc:P.cellsOf e=Enc.sz α){G:α→Prop}{a:Addr}{len cap:Nat}(hl:len≤cap)
  (hex:∀i,i<len→∃y:α,(∃c,w.cells? 0 (a.add (i*P.cellsOf e)) (P.cellsOf e)=some c∧c=enc y)∧G y):
  ∃l:List α,SlF w (.slice (some a) len cap) l∧∀y∈l,G y:=by
 have q_:=zJ8 hex
 obtain⟨l,hll,hp⟩:=q_
 refine⟨l,⟨_,_,by rw [hll],by rw [hll];exact hl,?_⟩,?_⟩
 ·by_cases h0:l=[]
  ·exact .inl h0
  ·right
   have hpos:=Enc.pos (α:=α)
   have hl0:0<l.length:=by cases l;exact absurd rfl h0;simp
   have hspot:a.spot=none:=by
    have q_:=hp 0 l[0] (by simp [hl0])
    obtain⟨⟨c,h1,h2⟩,_⟩:=q_
    have q_:=World.cells?_some h1
    obtain⟨_,h3,h4⟩:=q_
    have:=h4 0 (by omega)
    rw [List.getElem?_eq_getElem (by omega)] at this
    have h5:(a.add (0*P.cellsOf e)).add 0=a:=by simp [Addr.add]
    rw [h5] at this
    unfold World.cell? at this
    split at this
    ·split at this
     ·cases this
     ·rename_i hs;simpa using hs
    ·cases this
   obtain⟨ab,ao,asp⟩:=a
   simp only at hspot;subst hspot
   refine⟨ab,ao,rfl,At.flat fun i y hy=>?_⟩
   have q_:=hp i y hy
   obtain⟨⟨c,h1,rfl⟩,_⟩:=q_
   have q_:=World.cells?_some h1
   obtain⟨_,h3,h4⟩:=q_
   intro j v hj
   have hjl:j<(enc y).length:=(List.getElem?_eq_some_iff.1 hj).1
   have:=h4 j (by omega)
   rw [zAl,zAl,hc] at this
   rw [this];exact hj
 ·intro y hy
  have q_:=List.mem_iff_getElem.1 hy
  obtain⟨i,hi,rfl⟩:=q_
  exact(hp i _ (by simp [hi])).2
theorem zDq{H:Type}{e:TypeId}{p:Nat→Bool}:∀{ds:List (DataW H)} {d:DataW H},d∈ds→(DataW.weightsAll P e ds).all p=true→(d.weights P e).all p=true
 |[],_,hd,_=>by simp at hd
 |d'::r,d,hd,h=>by
  simp only [DataW.weightsAll,List.all_append,Bool.and_eq_true] at h
  have q_:=List.mem_cons.1 hd
  rcases q_ with rfl|hd
  ·exact h.1
  ·exact zDq hd h.2
def strF (P:Program) (t:TypeId) (ts:List TypeId) (os:List Nat):Bool:=match P.underlying t with
 |some (.struct fs)=>decide (fs.toList.map (·.type)=ts) && decide (fs.toList.map (·.offset)=os)
 |_=>false
theorem zLJ{t:TypeId}{ts:List TypeId}{os:List Nat}(h:strF P t ts os=true):∃fs,P.underlying t=some (.struct fs)∧fs.toList.map (·.type)=ts∧fs.toList.map (·.offset)=os:=by
 unfold strF at h
 split at h
 ·rename_i fs hfs
  rw [Bool.and_eq_true] at h
  exact⟨fs,hfs,of_decide_eq_true h.1,of_decide_eq_true h.2⟩
 ·cases h
theorem zFE{W:World}{b:Nat}{v:Value}{H:Type}{eH:TypeId×Value→H}{d:DataW H}{ps:List MemPlace}(h:Value.okWide PP W .any b E.q3 v)(ht:DataW.Trod eH PP W 0 (fun _=>true) true E.q3 v d ps)
  (hw:(d.weights PP E.q3).all (·≤reachBytes)=true):
  ∃a n c,∃l:List REv,v=.slice a n c∧SlF W (.slice a n c) l∧EvsM W l∧∀y∈l,y.frame.length≤4611686018427387904:=by
 obtain⟨fuel,hx⟩:=ht
 have u2:PP.underlying E.q3=some (.slice E.qo):=by kernel_rfl
 have hc:PP.cellsOf E.qo=Enc.sz REv:=by kernel_rfl
 have us:PP.underlying E.qc=some .string:=by kernel_rfl
 have cs1:PP.cellsOf E.qc=1:=by kernel_rfl
 have q_:=zLJ (P:=PP) (t:=E.qo) (ts:=[E.q2,E.qc,E.qy]) (os:=[0,1,2]) (by kernel_rfl)
 obtain⟨fs,hfs,hty,hof⟩:=q_
 have q_:=DataW.trod_slice u2 hx
 rcases q_ with ⟨hcs,_⟩|⟨a,len,cap,elems,rest,n,_,hcs,hxd,_,hl,hm,hlen,hel,_⟩
 ·exact⟨none,0,0,[],zEW h (by kernel_rfl) hcs,SlF.nil W,fun y hy=>by simp at hy,by simp⟩
 ·have hd:d=.slice (elems.map (·.1)) (rest.map (·.1)):=congrArg Prod.fst hxd
  rw [hd] at hw
  simp only [DataW.weights,u2,List.all_cons,List.all_append,Bool.and_eq_true] at hw
  have hwa:=hw.2.1
  have hex:∀i,i<len→∃y:REv,(∃c,W.cells? 0 (a.add (i*PP.cellsOf E.qo)) (PP.cellsOf E.qo)=some c∧c=enc y)∧((∃ps:List Int,SlF W y.picks.v ps)∧y.frame.length≤4611686018427387904):=by
   intro i hi
   have hE:=hel i hi
   rw [List.getElem?_eq_getElem (by omega),Option.bind_eq_some_iff] at hE
   obtain⟨c,h1,h2⟩:=hE
   have q_:=Rd.rd (P:=PP) (t:=E.qo) (α:=REv) h2
   obtain⟨y,hy,hg⟩:=q_
   refine⟨y,⟨c,h1,hy⟩,hg,?_⟩
   have hwi:=zDq (List.mem_map.2 ⟨elems[i],List.getElem_mem (by omega),rfl⟩) hwa
   have q_:=DataW.trod_struct hfs h2
   obtain⟨xs,m,_,hxe,_,hxl,hf⟩:=q_
   have hfl:fs.size=3:=by
    have:=congrArg List.length hty
    simpa using this
   have h1s:1<fs.toList.length:=by simp;omega
   have hft:(fs.toList[1]).type=E.qc:=by
    have:(fs.toList.map (·.type))[1]? = some E.qc:=by rw [hty];rfl
    rw [List.getElem?_map,List.getElem?_eq_getElem h1s] at this
    exact Option.some.inj this
   have hfo:(fs.toList[1]).offset=1:=by
    have:(fs.toList.map (·.offset))[1]? = some 1:=by rw [hof];rfl
    rw [List.getElem?_map,List.getElem?_eq_getElem h1s] at this
    exact Option.some.inj this
   have h3:=hf 1 (fs.toList[1]) (by rw [←Array.getElem?_toList];exact List.getElem?_eq_getElem h1s)
   rw [hft,hfo,cs1,hy] at h3
   obtain⟨x0,x1,x2,hxs⟩:∃x0 x1 x2,xs=[x0,x1,x2]:=by
    match xs,(by omega:xs.length=3) with
    |[x0,x1,x2],_=>exact⟨x0,x1,x2,rfl⟩
   subst hxs
   have h4:DataW.trod eH PP W 0 (fun _=>true) true m E.qc [txt y.frame]=some x1:=h3
   have q_:=DataW.trod_string us h4
   obtain⟨s,h5,h6,_⟩:=q_
   have h7:(⟨y.frame.toArray⟩:ByteArray)=s:=by
    have:=List.head_eq_of_cons_eq h5
    injection this
   have h8:s.data.toList=y.frame:=by rw [←h7]
   rw [hxe] at hwi
   simp only [DataW.weights,hfs,hty,List.map_cons,List.map_nil,DataW.weightsEach,List.all_append,Bool.and_eq_true] at hwi
   have h9:=hwi.2.1
   rw [h6] at h9
   simp only [DataW.weights,List.all_cons,List.all_nil,Bool.and_true] at h9
   have h10:=of_decide_eq_true h9
   have hrb:reachBytes=140737488351232:=rfl
   rw [hrb,h8] at h10
   omega
  have q_:=zNc hc hl hex
  obtain⟨l,hL,hG⟩:=q_
  exact⟨some a,len,cap,l,zEW h (by kernel_rfl) hcs,hL,fun y hy=>(hG y hy).1,fun y hy=>(hG y hy).2⟩
end Go.W
namespace Go.W
open Go Go.Proofs
set_option maxRecDepth 10000
variable {B N i j k m n n2 n3:Nat} {P:Program} {R:Nat → Prop} {a a2 a3:Option Addr} {g:GrD} {ps:List Int} {q:QyD} {u u' w w' w1 w2:World}
theorem zJd{α:Type}{P:List α→Prop}(h0:P [])(h1:∀l x,P l→P (l++[x]))(l:List α):P l:=by
 have h:∀r:List α,P r.reverse:=by
  intro r
  induction r with
  |nil=>exact h0
  |cons x r ih=>rw [List.reverse_cons];exact h1 _ _ ih
 have:=h l.reverse
 rwa [List.reverse_reverse] at this
abbrev EvD:=Bool×List UInt8
def evD (l:List REv):List EvD:=l.map fun y=>(y.tick,y.frame)
structure AuD where
 s:SvD
 told:List (List UInt8)
 took:List Int
section
variable {g:GrD} {c:CfD}
noncomputable def audS (g:GrD) (c:CfD) (r:AuD) (e:EvD):AuD:=
 if e.1 then ⟨(tickS g c r.s).1,r.told++(tickS g c r.s).2,r.took⟩
 else match (comeS g c r.s e.2).2 with
  |some t=>⟨(comeS g c r.s e.2).1,r.told++[t],r.took⟩
  |none=>match reqOf e.2 with
   |some x=>⟨(comeS g c r.s e.2).1,r.told,r.took++[x.id]⟩
   |none=>⟨(comeS g c r.s e.2).1,r.told,r.took⟩
noncomputable def audR (g:GrD) (c:CfD) (l:List EvD):AuD:=l.foldl (audS g c) ⟨newS c,[],[]⟩
theorem zEs(l:List EvD)(e:EvD):audR g c (l++[e])=audS g c (audR g c l) e:=by
 unfold audR;rw [List.foldl_append];rfl
theorem zHm{l:List EvD}(h:k<l.length):audR g c (l.take (k+1))=audS g c (audR g c (l.take k)) l[k]:=by
 rw [zAa h,zEs]
theorem zA7(r:AuD)(f:List UInt8):audS g c r (true,f)=⟨(tickS g c r.s).1,r.told++(tickS g c r.s).2,r.took⟩:=rfl
theorem zBW{r:AuD}{f t:List UInt8}(h:(comeS g c r.s f).2=some t):audS g c r (false,f)=⟨(comeS g c r.s f).1,r.told++[t],r.took⟩:=by
 unfold audS;rw [if_neg (by simp)];dsimp only;rw [h]
theorem zBx{r:AuD}{f:List UInt8}(h:(comeS g c r.s f).2=none):audS g c r (false,f)=⟨(comeS g c r.s f).1,r.told,r.took++((reqOf f).map (·.id)).toList⟩:=by
 unfold audS;rw [if_neg (by simp)];dsimp only;rw [h];dsimp only
 cases reqOf f <;> simp
theorem zES(hc:CfOk c){s:SvD}(h:SvOk g c s):(tickS g c s).2.length≤64:=by
 have h1:=zDV (g:=g) (c:=c) (usedS (admitS s.wait s.held).2) (admitS s.wait s.held).2
 have h2:(usedS (admitS s.wait s.held).2).length≤(admitS s.wait s.held).2.length:=zG8 _ _
 have h3:=(zFC hc s.wait s.held h).1.len
 have h4:=hc.slots.2
 dsimp only at h3
 show (stepsS g c _ _).2.length≤64
 omega
theorem zJR(hc:CfOk c){r:AuD}(h:SvOk g c r.s)(e:EvD):SvOk g c (audS g c r e).s∧(audS g c r e).told.length≤r.told.length+64∧(audS g c r e).took.length≤r.took.length+1∧r.told <+: (audS g c r e).told∧r.took <+: (audS g c r e).took:=by
 obtain⟨b,f⟩:=e
 cases b with
 |true =>
  rw [zA7]
  have:=zES hc h
  exact⟨(zNv hc h).1,by dsimp only;rw [List.length_append];omega,by dsimp only;omega,List.prefix_append _ _,List.prefix_refl _⟩
 |false =>
  have hk:=zMX h f
  cases ho:(comeS g c r.s f).2 with
  |some t =>
   rw [zBW ho]
   exact⟨hk,by dsimp only;rw [List.length_append];simp,by dsimp only;omega,List.prefix_append _ _,List.prefix_refl _⟩
  |none =>
   rw [zBx ho]
   refine⟨hk,by dsimp only;omega,?_,List.prefix_refl _,List.prefix_append _ _⟩
   dsimp only
   rw [List.length_append]
   cases reqOf f <;> simp
theorem zEX(hc:CfOk c)(l:List EvD):SvOk g c (audR g c l).s∧(audR g c l).told.length≤64*l.length∧(audR g c l).took.length≤l.length:=by
 refine zJd (P:=fun l=>SvOk g c (audR g c l).s∧(audR g c l).told.length≤64*l.length∧(audR g c l).took.length≤l.length) ⟨new_ok g c,by simp [audR],by simp [audR]⟩ (fun l e ih=>?_) l
 rw [zEs,List.length_append]
 have:=zJR hc ih.1 e
 refine⟨this.1,?_,?_⟩ <;> simp only [List.length_cons,List.length_nil] <;> omega
theorem zKw(hc:CfOk c)(l m:List EvD):(audR g c l).told <+: (audR g c (l++m)).told∧(audR g c l).took <+: (audR g c (l++m)).took:=by
 refine zJd (P:=fun m=>(audR g c l).told <+: (audR g c (l++m)).told∧(audR g c l).took <+: (audR g c (l++m)).took) (by rw [List.append_nil];exact⟨List.prefix_refl _,List.prefix_refl _⟩) (fun m e ih=>?_) m
 rw [←List.append_assoc,zEs]
 have:=zJR (g:=g) hc (zEX hc (l++m)).1 e
 exact⟨ih.1.trans this.2.2.2.1,ih.2.trans this.2.2.2.2⟩
end
open Classical in
/-- the error of a new server -/
noncomputable def errN (x:RCfg) (im:List UInt8):Int:=if cfgOk x then (if imgOf im=none then 30 else 0) else 1
noncomputable def errA (x:RCfg) (im:List UInt8) (n:Nat):Int:=if 1000<n then 2 else errN x im
noncomputable def graA (im:List UInt8):GrD:=(imgOf im).getD ⟨0,[],[]⟩
noncomputable def toldA (x:RCfg) (im:List UInt8) (l:List EvD):List (List UInt8):=if errA x im l.length=0 then (audR (graA im) (cfOf x) l).told else []
noncomputable def tookA (x:RCfg) (im:List UInt8) (l:List EvD):List Int:=if errA x im l.length=0 then (audR (graA im) (cfOf x) l).took else []
noncomputable def liveA (x:RCfg) (im:List UInt8) (l:List EvD):List Int:=if errA x im l.length=0 then (List.range (cfOf x).workers).map fun k=>(liveW (graA im) (cfOf x).workers (audR (graA im) (cfOf x) l).s.held k:Int) else []
theorem zCL{x:RCfg}{im:List UInt8}:errN x im=0↔cfgOk x∧∃g,imgOf im=some g:=by
 unfold errN
 by_cases h:cfgOk x
 ·rw [if_pos h]
  cases e:imgOf im with
  |none=>simp
  |some g=>simp [h]
 ·rw [if_neg h];simp [h]
theorem zBY{x:RCfg}{im:List UInt8}:errA x im n=0↔n≤1000∧errN x im=0:=by
 unfold errA
 by_cases h:1000<n
 ·rw [if_pos h];simp;omega
 ·rw [if_neg h];simp;omega
theorem zAW{im:List UInt8}(h:imgOf im=some g):graA im=g:=by unfold graA;rw [h];rfl
section
variable {g:GrD} {c:CfD}
end
end Go.W
namespace Go.W
open Go Go.Proofs
open Enc (enc)
set_option maxRecDepth 10000
variable {B N i j k m n n2 n3:Nat} {P:Program} {R:Nat → Prop} {a a2 a3:Option Addr} {g:GrD} {ps:List Int} {q:QyD} {u u' w w' w1 w2:World}
section
variable {R R' R2:Nat→Prop} {B B2:Nat} {u u' w w':World} {bs bt:Nat} {g:GrD} {c:CfD} {s t:SvD}
theorem SrvP.ok(S:SrvP R B w bs g c s):GrIs g∧CfOk c∧SvOk g c s:=(SrvX.reg S).2
theorem SrvP.frB(S:SrvP R B w bs g c s)(f:Fr R w w'):Fr (fun i=>B≤i) w w':=f.mono fun i _ hi=>((SrvX.reg S).1 i hi).1
end
end Go.W
namespace Go.W
open Go
variable {B N i j k m n n2 n3:Nat} {P:Program} {R:Nat → Prop} {a a2 a3:Option Addr} {g:GrD} {ps:List Int} {q:QyD} {u u' w w' w1 w2:World}
section
variable {P:Program} {k:Value→World→Prop} {pn:List PanicEntry→World→Prop} {w:World}
theorem zKY{t e:TypeId}{zero:List Value}{sz:Nat}(ht:ArrT P t N e)(hz:(P.info? t).bind (·.zero)=some (.agg zero.toArray))(hs:(P.info? e).map (·.size)=some sz){parts:List (Nat×Value)}{cs:List Value}
  (hf:fillL (fun i=>some (i*sz,sz)) zero parts=some cs)(w:World):(Instr.build t parts.toArray).run P w=.ok (.agg cs.toArray) w:=by
 obtain⟨i,hi,hz⟩:=Option.bind_eq_some_iff.1 hz
 obtain⟨j,hj,hs⟩:=Option.map_eq_some_iff.1 hs
 have hff:=zGV _ parts zero cs hf
 simp only [Instr.build,zeroValue,sizeOf,typeInfo,underlying,Sem.run_bind,run_program,Result.andThen_ok,hi,hj,hs,hz,Sem.run_pure,ht.h,Value.cells,hff]
theorem rbuildA{t e:TypeId}{zero:List Value}{sz:Nat}[ht:ArrT P t N e](hz:(P.info? t).bind (·.zero)=some (.agg zero.toArray))(hs:(P.info? e).map (·.size)=some sz){parts:List (Nat×Value)}{cs:List Value}
  (hf:fillL (fun i=>some (i*sz,sz)) zero parts=some cs)(hk:k (.agg cs.toArray) w):SemV P (Instr.build t parts.toArray) k pn w:=SemV.of (zKY ht hz hs hf w) hk
theorem zMu{t ty e:TypeId}{z:Value}{sz by':Nat}(ht:SlT P t e)(he:Elem P e z sz by'){c c2:Nat}(h:n≤c)(w:World):
  (Builtin.append_ #[t,t] ty #[.slice a n c,.slice a2 0 c2]).run P w=.ok (.slice a n c) w:=by
 obtain⟨i,hi,hz,hs,hby⟩:=info_parts he.h
 have hf:∀w,(Builtin.firstCells i.size 0 (.slice a2 0 c2)).run P w=.ok (#[]:Array Value) w:=fun w=>by
  cases a2 <;> simp [Builtin.firstCells,loadCells,loadCellsFrom]
 exact run_append_nothing w t t ty e i ht.h hi a n c h _ ⟨.inl ⟨e,ht.h⟩,fun w'=>by simp [Builtin.lenOf],hf w,hf _,by simp,by simp⟩
open Enc (enc) in
/-- append, and where the row lies behind it, whatever is put behind -/
theorem rappF{α:Type}[Enc α]{t ty e:TypeId}{z:Value}{sz by':Nat}[ht:SlT P t e][he:Elem P e z sz by']{v x:Value}{l m:List α}(hsz:Enc.sz α=sz∧z.cells.size=sz)
  (hO:Own B e w v l)(hS:SlF w x m)(hB:B≤w.heap.size)(hb:(l.length+m.length)*by'≤140737488355328∧l.length+m.length≤9223372036854775807)
  (hk:∀v' w',Own B e w' v' (l++m)→Fr (ownD B v) w w'→((Value.blk v'=Value.blk v∨Value.blk v'=some w.heap.size∧m≠[]))→k v' w'):SemV P (Builtin.append_ #[t,t] ty #[v,x]) k pn w:=by
 by_cases hm:m=[]
 ·subst hm
  obtain⟨a2,c2,rfl⟩:=hS.shape
  obtain⟨a,c,hv,hlc,_⟩:=hO.sl
  subst hv
  refine SemV.of (zMu ht he hlc w) (hk _ _ ?_ (Fr.refl _ _) (.inl rfl))
  rw [List.append_nil];exact hO
 ·exact rappD hsz hO hS hm hB hb fun v' w' h1 h2 h3=>hk v' w' h1 h2 (h3.imp id fun h=>⟨h,hm⟩)
end
end Go.W
namespace Go.W
open Go Go.Proofs
open Enc (enc)
set_option maxRecDepth 10000
variable {B N i j k m n n2 n3:Nat} {P:Program} {R:Nat → Prop} {a a2 a3:Option Addr} {g:GrD} {ps:List Int} {q:QyD} {u u' w w' w1 w2:World}
def RunP (X:Nat→Prop) (B:Nat) (u:World) (br bs:Nat) (g:GrD) (c:CfD) (r:AuD):Prop:=
 ∃(R:Nat→Prop) (vt vk:SV),SrvP R B u bs g c r.s∧Bk u br [.pointer (some ⟨bs,0,none⟩),.slice vt.a vt.n vt.c,.slice vk.a vk.n vk.c] E.yi∧Own B E.qc u (.slice vt.a vt.n vt.c) (r.told.map bsOf)∧Own B E.qa u (.slice vk.a vk.n vk.c) r.took ∧
  (∀b,Value.blk (.slice vt.a vt.n vt.c)=some b→b<u.heap.size∧¬R b∧b≠br∧Value.blk (.slice vk.a vk.n vk.c)≠some b)∧(∀b,Value.blk (.slice vk.a vk.n vk.c)=some b→b<u.heap.size∧¬R b∧b≠br)∧¬R br∧B≤br∧br<u.heap.size ∧
  ∀i,X i→i<u.heap.size∧¬R i∧i≠br∧Value.blk (.slice vt.a vt.n vt.c)≠some i∧Value.blk (.slice vk.a vk.n vk.c)≠some i
theorem RunP.up{X:Nat→Prop}[L:Le u u']{br bs:Nat}{c:CfD}{r:AuD}(h:RunP X B u br bs g c r):RunP X B u' br bs g c r:=by
 obtain⟨R,vt,vk,S,K,O1,O2,h1,h2,h3,h4,h5,hX⟩:=h
 have:=Le.size (a:=u) (b:=u')
 exact⟨R,vt,vk,S.up,K.mv (w:=u'),O1.up,O2.up,fun b hb=>⟨by have:=(h1 b hb).1;omega,(h1 b hb).2⟩,fun b hb=>⟨by have:=(h2 b hb).1;omega,(h2 b hb).2⟩,h3,h4,by omega,fun i hi=>⟨by have:=(hX i hi).1;omega,(hX i hi).2⟩⟩
theorem zC6{α:Type}[Enc α]{e:TypeId}{v v':Value}{l:List α}{X:Nat→Prop}(h:∀b,Value.blk v=some b→b<w.heap.size∧¬X b)
  (hv:Value.blk v'=Value.blk v∨Value.blk v'=some w.heap.size∧l≠[])(O:Own B e w' v' l)(hX:∀i,X i→i<w.heap.size)(hw:w.heap.size≤w'.heap.size):
  ∀b,Value.blk v'=some b→b<w'.heap.size∧¬X b:=fun b hb=>by
 rcases hv with hv|⟨hv,hl⟩
 ·rw [hv] at hb
  have:=h b hb
  exact⟨by omega,this.2⟩
 ·have q_:=O.lt hl
  obtain⟨b',h1,_,h2⟩:=q_
  rw [hv] at hb h1
  cases h1;cases hb
  exact⟨h2,fun h3=>by have:=hX _ h3;omega⟩
theorem zAj{v:Value}{b:Nat}(h:ownD B v b):B≤b∧Value.blk v=some b:=⟨h.1,h.2.1⟩
set_option maxHeartbeats 2000000 in
theorem zE7{X:Nat→Prop}{br bs:Nat}{c:CfD}{r:AuD}{y:REv}(Q:RunP X B w br bs g c r)(hB:B≤w.heap.size)(hf:y.frame.length≤4611686018427387904)(ht:r.told.length≤100000)(hk:r.took.length≤100000):
  Sp PP F.ql #[.pointer (some ⟨br,0,none⟩),agg y] w fun _ w'=>RunP X B w' br bs g c (audS g c r (false,y.frame))∧Fr (fun i=>B≤i∧¬X i) w w':=by
 obtain⟨R,⟨ta,tn,tc⟩,⟨ka,kn,kc⟩,S,K,O1,O2,h1,h2,hR,hbB,hbw,hX⟩:=Q
 obtain⟨yt,yf,pa,pn,pc⟩:=y
 dsimp only at K O1 O2 h1 h2 hX hf
 have hreg:=(SrvX.reg S).1
 have htn:=O1.sl.len
 have hkn:=O2.sl.len
 have hlm:(r.told.map bsOf).length=r.told.length:=List.length_map ..
 refine en TBok rfl ?_
 refine rbx fun bx w1 n1 X1=>?_
 have X1:Bk w1 bx (enc (⟨yt,yf,pa,pn,pc⟩:REv)) E.qo:=X1
 have hbx:=n1.lo (u:=w)
 have z1:=Le.size (a:=w) (b:=w1)
 refine drawR TBok mixed (fun i=>B≤i∧i≠br∧i≠bx) [0,1,2,3,4,5,6,7,8,9,10,11] (by kernel_rfl) fun w2 e2 _=>?_
 refine tld (B:=K) rfl (fun h=>h.2.1 rfl) ?_
 refine tld (B:=X1) rfl (fun h=>h.2.2 rfl) ?_
 have D:=zDk (f:=yf) (S.up (w':=w2)) (by have:=e2.e.size;omega) (by omega)
 have q_:∃o,(comeS g c r.s yf).2=o:=⟨_,rfl⟩
 obtain⟨o,ho⟩:=q_
 rw [ho] at D
 have z2:=Le.size (a:=w) (b:=w2)
 have tw (w3:World) (f3:Fr R w2 w3):Fr (fun i=>B≤i∧i≠br∧i≠bx) w2 w3:=f3.mono fun i _ hi=>by
  have h3:=hreg i hi
  exact⟨h3.1,fun h=>hR (h ▸ hi),by omega⟩
 cases o with
 |some t =>
  refine rcall D ?_
  rintro _ w3 ⟨rfl,S3,f3⟩
  refine⟨tw w3 f3,?_⟩
  have z3:=f3.size
  have K3:=(K.mv (w:=w2)).fr f3 hR
  have O3:=(O1.up (w':=w2)).fr f3 fun b _ hb hr=>(h1 b hb).2.1 hr
  have P3:=(O2.up (w':=w2)).fr f3 fun b _ hb hr=>(h2 b hb).2.1 hr
  refine rld (B:=K3) rfl ?_
  refine rbs1 (bsOf t) rfl rfl (by decide) fun b4 w4 e4 _ S4=>?_
  have z4:=e4.e.size
  refine rappF ⟨rfl,rfl⟩ (O3.up (w':=w4)) S4 (by omega) (by simp only [List.length_cons,List.length_nil];omega) fun v5 w5 O5 f5 hv5=>?_
  have z5:=f5.size
  have hv5:Value.blk v5=Value.blk (.slice ta tn tc)∨Value.blk v5=some w4.heap.size∧r.told.map bsOf++[bsOf t]≠[]:=hv5.imp id fun h=>⟨h.1,by simp⟩
  have K5:=(K3.mv (w:=w4)).fr f5 fun h=>(h1 br (zAj h).2).2.2.1 rfl
  have P5:=(P3.up (w':=w4)).fr f5 fun b _ hb h=>(h1 b (zAj h).2).2.2.2 hb
  have S5:=(S3.up (w':=w4)).away f5 fun b h hr=>by
   have h3:=h1 b (zAj h).2
   rcases hr with h4|h4
   ·exact h3.2.1 h4
   ·omega
  have N5:=zC6 (X:=fun i=>((gR R w2 w3 i∨i=br)∨Value.blk (.slice ka kn kc)=some i)∨X i) (fun b hb=>by
   have h3:=h1 b hb
   refine⟨by omega,fun h=>?_⟩
   rcases h with ((h|h)|h)|h
   ·rcases h with h|h
    ·exact h3.2.1 h
    ·omega
   ·exact h3.2.2.1 h
   ·exact h3.2.2.2 h
   ·exact(hX _ h).2.2.2.1 hb) hv5 O5 (fun i h=>by
   rcases h with ((h|h)|h)|h
   ·rcases h with h|h
    ·have:=hreg i h;omega
    ·omega
   ·omega
   ·have:=h2 i h;omega
   ·have:=hX i h;omega) z5
  have q_:=O5.shape
  obtain⟨a5,c5,rfl⟩:=q_
  refine rsto (B:=K5) (vs:=[.slice a5 _ c5]) rfl rfl rfl (sl_one _ _ _) fun w6 K6 f6 _=>?_
  have z6:=f6.size
  have fin:RunP X B w6 br bs g c (audS g c r (false,yf)):=by
   rw [zBW ho]
   have hbr:¬gR R w2 w3 br:=fun h=>by
    rcases h with h|h
    ·exact hR h
    ·omega
   refine⟨gR R w2 w3,⟨a5,_,c5⟩,⟨ka,kn,kc⟩,S5.away f6 fun b h hr=>hbr (h ▸ hr),K6,?_,P5.fr f6 fun b _ hb h=>(h2 b hb).2.2 h,fun b hb=>?_,fun b hb=>?_,hbr,hbB,by omega,fun i hi=>?_⟩
   ·have:=O5.fr f6 fun b _ hb h=>(N5 b hb).2 (.inl (.inl (.inr h)))
    rw [show (r.told++[t]).map bsOf=r.told.map bsOf++[bsOf t] by simp];exact this
   ·have h3:=N5 b hb
    exact⟨by omega,fun h=>h3.2 (.inl (.inl (.inl h))),fun h=>h3.2 (.inl (.inl (.inr h))),fun h=>h3.2 (.inl (.inr h))⟩
   ·have h3:=h2 b hb
    refine⟨by omega,fun h=>?_,h3.2.2⟩
    rcases h with h|h
    ·exact h3.2.1 h
    ·omega
   ·have h3:=hX i hi
    refine⟨by omega,fun h=>?_,h3.2.2.1,fun h=>(N5 i h).2 (.inr hi),h3.2.2.2.2⟩
    rcases h with h|h
    ·exact h3.2.1 h
    ·omega
  have fr6:Fr (fun i=>B≤i∧¬X i) w w6:=((((Fr.fr (Le.e (a:=w) (b:=w2))).trans (f3.mono fun i _ hi=>⟨(hreg i hi).1,fun hx=>(hX i hx).2.1 hi⟩)).trans (Fr.fr e4.e)).trans (f5.mono fun i _ hi=>⟨hi.1,fun hx=>(hX i hx).2.2.2.1 (zAj hi).2⟩)).trans (f6.mono fun i _ hi=>by rw [hi];exact⟨hbB,fun hx=>(hX br hx).2.2.1 rfl⟩)
  exact⟨fin,fr6⟩
 |none =>
  refine rcall D ?_
  rintro _ w3 ⟨rfl,S3,f3⟩
  refine⟨tw w3 f3,?_⟩
  have z3:=f3.size
  have K3:=(K.mv (w:=w2)).fr f3 hR
  have X3:=(X1.mv (w:=w2)).fr f3 fun h=>by have:=hreg _ h;omega
  have O3:=(O1.up (w':=w2)).fr f3 fun b _ hb hr=>(h1 b hb).2.1 hr
  have P3:=(O2.up (w':=w2)).fr f3 fun b _ hb hr=>(h2 b hb).2.1 hr
  have fr3:Fr (fun i=>B≤i∧¬X i) w w3:=(Fr.fr (Le.e (a:=w) (b:=w2))).trans (f3.mono fun i _ hi=>⟨(hreg i hi).1,fun hx=>(hX i hx).2.1 hi⟩)
  have hbr:¬gR R w2 w3 br:=fun h=>by
   rcases h with h|h
   ·exact hR h
   ·omega
  refine rld (B:=X3) rfl ?_
  refine rcall (zBM (s:=yf) (by omega)) ?_
  rintro _ w4 ⟨⟨d,q,hrq,rfl,hO⟩|⟨hrq,rfl⟩,e4⟩
  ·have hid:=hO.1
   refine ral fun bq w5 n5 X5=>?_
   have hbq:=n5.lo (u:=w3)
   refine rsto (B:=X5) (vs:=enc q) rfl rfl rfl (Enc.one _) fun w6 X6 f6 _=>?_
   have X6:Bk w6 bq (enc q) E.qd:=X6
   have t6:Stp w3 w6:=⟨Fr.st (Le.e (a:=w3) (b:=w5)) f6 fun i hi=>by omega⟩
   have z6:=t6.e.size
   have lq:=X6.lt
   have K6:=K3.mv (w:=w6)
   refine ite (fun _=>?_) (fun h=>absurd rfl h)
   refine drawRT TBok mixed (fun i=>i≠bq) (.one 0 (.one 1 (.one 2 (.one 3 (.one 5 (.one 6 (.duo 4 (.one 7 (.one 8 (.one 9 (.one 10 (.one 11 .nil))))) 7 (.lone 4 (.one 8 (.one 9 (.one 10 (.one 11 .nil)))))))))))) (by kernel_rfl) fun w7 e7 _=>?_
   have z7:=e7.e.size
   refine tld (B:=X6) rfl (fun h=>h rfl) ?_
   refine⟨?_,?_⟩
   case' refine_1 =>
    refine rld (B:=K6) rfl ⟨Fr.refl _ _,?_⟩
    refine rbs1 (q.id:Int) rfl rfl (by decide) fun b8 w8 e8 _ S8=>⟨e8.e.mono fun _ _ h=>h.elim,?_⟩
   case' refine_2 =>
    refine rbs1 (q.id:Int) rfl rfl (by decide) fun b8 w8 e8 _ S8=>⟨e8.e.mono fun _ _ h=>h.elim,?_⟩
    refine rld (B:=K6) rfl ⟨Fr.refl _ _,?_⟩
   all_goals
    have z8:=e8.e.size
    refine rappF ⟨rfl,rfl⟩ (P3.up (w':=w8)) S8 (by omega) (by simp only [List.length_cons,List.length_nil];omega) fun v9 w9 O9 f9 hv9=>⟨f9.mono fun i _ hi=>by have:=(h2 i (zAj hi).2).1;omega,?_⟩
    have z9:=f9.size
    have hv9:Value.blk v9=Value.blk (.slice ka kn kc)∨Value.blk v9=some w8.heap.size∧r.took++[q.id]≠[]:=hv9.imp id fun h=>⟨h.1,by simp⟩
    have K9:=(K6.mv (w:=w8)).fr f9 fun h=>(h2 br (zAj h).2).2.2 rfl
    have P9:=(O3.up (w':=w8)).fr f9 fun b _ hb h=>(h1 b hb).2.2.2 (zAj h).2
    have S9:=(S3.up (w':=w8)).away f9 fun b h hr=>by
     have h3:=h2 b (zAj h).2
     rcases hr with h4|h4
     ·exact h3.2.1 h4
     ·omega
    have N9:=zC6 (X:=fun i=>((gR R w2 w3 i∨i=br)∨Value.blk (.slice ta tn tc)=some i)∨X i) (fun b hb=>by
     have h3:=h2 b hb
     refine⟨by omega,fun h=>?_⟩
     rcases h with ((h|h)|h)|h
     ·rcases h with h|h
      ·exact h3.2.1 h
      ·omega
     ·exact h3.2.2 h
     ·exact(h1 b h).2.2.2 hb
     ·exact(hX _ h).2.2.2.2 hb) hv9 O9 (fun i h=>by
     rcases h with ((h|h)|h)|h
     ·rcases h with h|h
      ·have:=hreg i h;omega
      ·omega
     ·omega
     ·have:=h1 i h;omega
     ·have:=hX i h;omega) z9
    have q_:=O9.shape
    obtain⟨a9,c9,rfl⟩:=q_
    refine rsto (B:=K9) (vs:=[.slice a9 _ c9]) rfl rfl rfl (sl_one _ _ _) fun w10 K10 f10 _=>⟨f10.mono fun i _ hi=>by omega,?_⟩
    have z10:=f10.size
    have fin:RunP X B w10 br bs g c (audS g c r (false,yf)):=by
     have hap:r.took++((some d).map (·.id)).toList=r.took++[q.id]:=by rw [hid];rfl
     rw [zBx ho,hrq,hap]
     refine⟨gR R w2 w3,⟨ta,tn,tc⟩,⟨a9,_,c9⟩,S9.away f10 fun b h hr=>hbr (h ▸ hr),K10,P9.fr f10 fun b _ hb h=>(h1 b hb).2.2.1 h,?_,fun b hb=>?_,fun b hb=>?_,hbr,hbB,by omega,fun i hi=>?_⟩
     ·exact O9.fr f10 fun b _ hb h=>(N9 b hb).2 (.inl (.inl (.inr h)))
     ·have h3:=h1 b hb
      refine⟨by omega,fun h=>?_,h3.2.2.1,fun h=>(N9 b h).2 (.inl (.inr hb))⟩
      rcases h with h|h
      ·exact h3.2.1 h
      ·omega
     ·have h3:=N9 b hb
      exact⟨by omega,fun h=>h3.2 (.inl (.inl (.inl h))),fun h=>h3.2 (.inl (.inl (.inr h)))⟩
     ·have h3:=hX i hi
      refine⟨by omega,fun h=>?_,h3.2.2.1,h3.2.2.2.1,fun h=>(N9 i h).2 (.inr hi)⟩
      rcases h with h|h
      ·exact h3.2.1 h
      ·omega
    have fr10:Fr (fun i=>B≤i∧¬X i) w w10:=(((fr3.trans (Fr.fr (Le.e (a:=w3) (b:=w7)))).trans (Fr.fr e8.e)).trans (f9.mono fun i _ hi=>⟨hi.1,fun hx=>(hX i hx).2.2.2.2 (zAj hi).2⟩)).trans (f10.mono fun i _ hi=>by rw [hi];exact⟨hbB,fun hx=>(hX br hx).2.2.1 rfl⟩)
    exact⟨fin,fr10⟩
  ·refine ral fun bq w5 n5 X5=>?_
   have hbq:=n5.lo (u:=w3)
   refine rsto (B:=X5) (vs:=enc zRq) rfl rfl rfl (Enc.one _) fun w6 X6 f6 _=>?_
   have t6:Stp w3 w6:=⟨Fr.st (Le.e (a:=w3) (b:=w5)) f6 fun i hi=>by omega⟩
   have z6:=t6.e.size
   refine ite (fun h=>absurd h (by decide)) (fun _=>?_)
   have fin:RunP X B w6 br bs g c (audS g c r (false,yf)):=by
    rw [zBx ho,hrq]
    refine⟨gR R w2 w3,⟨ta,tn,tc⟩,⟨ka,kn,kc⟩,S3.up (w':=w6),K3.mv (w:=w6),O3.up (w':=w6),?_,fun b hb=>?_,fun b hb=>?_,hbr,hbB,by omega,fun i hi=>?_⟩
    ·have:=P3.up (w':=w6)
     simpa using this
    ·have h3:=h1 b hb
     refine⟨by omega,fun h=>?_,h3.2.2⟩
     rcases h with h|h
     ·exact h3.2.1 h
     ·omega
    ·have h3:=h2 b hb
     refine⟨by omega,fun h=>?_,h3.2.2⟩
     rcases h with h|h
     ·exact h3.2.1 h
     ·omega
    ·have h3:=hX i hi
     refine⟨by omega,fun h=>?_,h3.2.2.1,h3.2.2.2.1,h3.2.2.2.2⟩
     rcases h with h|h
     ·exact h3.2.1 h
     ·omega
   exact⟨fin,fr3.trans (Fr.fr t6.e)⟩
set_option maxHeartbeats 2000000 in
theorem zE8{X:Nat→Prop}{br bs:Nat}{c:CfD}{r:AuD}{y:REv}(Q:RunP X B w br bs g c r)(hB:B≤w.heap.size)(hps:∀u,Fr (fun i=>B≤i) w u→SlF u y.picks.v ps)(ht:r.told.length≤100000):
  Sp PP F.qm #[.pointer (some ⟨br,0,none⟩),agg y] w fun _ w'=>RunP X B w' br bs g c (audS g c r (true,y.frame))∧Fr (fun i=>B≤i∧¬X i) w w':=by
 obtain⟨R,⟨ta,tn,tc⟩,⟨ka,kn,kc⟩,S,K,O1,O2,h1,h2,hR,hbB,hbw,hX⟩:=Q
 obtain⟨yt,yf,pa,pn,pc⟩:=y
 dsimp only at K O1 O2 h1 h2 hX
 have hps:∀u,Fr (fun i=>B≤i) w u→SlF u (.slice pa pn pc) ps:=hps
 have hreg:=(SrvX.reg S).1
 have hlm:(r.told.map bsOf).length=r.told.length:=List.length_map ..
 have q_:=S.ok
 obtain⟨_,hcf,hso⟩:=q_
 have hol:=zES hcf hso
 have hlm2:((tickS g c r.s).2.map bsOf).length=(tickS g c r.s).2.length:=List.length_map ..
 refine en TBok rfl ?_
 refine rbx fun bx w1 n1 X1=>?_
 have X1:Bk w1 bx (enc (⟨yt,yf,pa,pn,pc⟩:REv)) E.qo:=X1
 have hbx:=n1.lo (u:=w)
 have z1:=Le.size (a:=w) (b:=w1)
 refine drawRT TBok mixed (fun i=>B≤i∧i≠bx) (.one 0 (.one 1 (.one 2 (.one 3 (.one 5 (.one 6 (.one 7 (.one 9 (.one 10 (.duo 4 (.lone 8 (.one 11 (.one 12 (.one 13 (.one 14 (.one 15 .nil)))))) 8 (.duo 4 (.one 11 (.one 12 (.one 13 (.one 14 (.one 15 .nil))))) 11 (.lone 4 (.one 12 (.one 13 (.one 14 (.one 15 .nil)))))))))))))))) (by kernel_rfl) fun w2 e2 _=>?_
 have z2:=Le.size (a:=w) (b:=w2)
 have S2:=S.up (w':=w2)
 have D:=zDm (a3:=pa) (n3:=pn) (c3:=pc) (ps:=ps) S2 (by omega) fun u f=>hps u ((Fr.fr (Le.e (a:=w) (b:=w2))).trans (S2.frB f))
 have tw (w3:World) (f3:Fr R w2 w3):Fr (fun i=>B≤i∧i≠bx) w2 w3:=f3.mono fun i _ hi=>by
  have h3:=hreg i hi
  exact⟨h3.1,by omega⟩
 refine tld (B:=X1) rfl (fun h=>h.2 rfl) ?_
 refine⟨?_,?_⟩
 case' refine_2 =>
  refine rld (B:=K) rfl ⟨Fr.refl _ _,?_⟩
  refine⟨?_,?_⟩
 case' refine_1 =>
  refine rld (B:=K) rfl ⟨Fr.refl _ _,?_⟩
  refine rld (B:=K) rfl ⟨Fr.refl _ _,?_⟩
 case' refine_2.refine_1=>refine rld (B:=K) rfl ⟨Fr.refl _ _,?_⟩
 all_goals
  refine rcall D ?_
  rintro v3 w3 ⟨R3,V3,_,S3,hR3,f3⟩
  refine⟨tw w3 f3,?_⟩
  have K3:=(K.mv (w:=w2)).fr f3 hR
 case' refine_2.refine_2=>refine rld (B:=K3) rfl ⟨Fr.refl _ _,?_⟩
 all_goals
  have z3:=f3.size
  have O3:=(O1.up (w':=w2)).fr f3 fun b _ hb hr=>(h1 b hb).2.1 hr
  have P3:=(O2.up (w':=w2)).fr f3 fun b _ hb hr=>(h2 b hb).2.1 hr
  have q_:=V3.shape
  obtain⟨a3,c3,rfl⟩:=q_
  refine rappF ⟨rfl,rfl⟩ O3 V3.sl (by omega) (by constructor <;> omega) fun v5 w5 O5 f5 hv5=>⟨f5.mono fun i _ hi=>⟨hi.1,by have:=(h1 i (zAj hi).2).1;omega⟩,?_⟩
  have z5:=f5.size
  have hv5:Value.blk v5=Value.blk (.slice ta tn tc)∨Value.blk v5=some w3.heap.size∧r.told.map bsOf++(tickS g c r.s).2.map bsOf≠[]:=hv5.imp id fun h=>⟨h.1,fun h0=>h.2 (List.append_eq_nil_iff.1 h0).2⟩
  have K5:=K3.fr f5 fun h=>(h1 br (zAj h).2).2.2.1 rfl
  have P5:=P3.fr f5 fun b _ hb h=>(h1 b (zAj h).2).2.2.2 hb
  have hR3':∀i,R3 i→R i∨w2.heap.size≤i∧i<w3.heap.size:=hR3
  have S5:=S3.away f5 fun b h hr=>by
   have h3:=h1 b (zAj h).2
   have q_:=hR3' b hr
   rcases q_ with h4|h4
   ·exact h3.2.1 h4
   ·omega
  have hbr:¬R3 br:=fun h=>by
   have q_:=hR3' _ h
   rcases q_ with h|h
   ·exact hR h
   ·omega
  have N5:=zC6 (X:=fun i=>((R3 i∨i=br)∨Value.blk (.slice ka kn kc)=some i)∨X i) (fun b hb=>by
   have h3:=h1 b hb
   refine⟨by omega,fun h=>?_⟩
   rcases h with ((h|h)|h)|h
   ·have q_:=hR3' _ h
    rcases q_ with h|h
    ·exact h3.2.1 h
    ·omega
   ·exact h3.2.2.1 h
   ·exact h3.2.2.2 h
   ·exact(hX _ h).2.2.2.1 hb) hv5 O5 (fun i h=>by
   rcases h with ((h|h)|h)|h
   ·have q_:=hR3' _ h
    rcases q_ with h|h
    ·have:=hreg i h;omega
    ·omega
   ·omega
   ·have:=h2 i h;omega
   ·have:=hX i h;omega) z5
  have q_:=O5.shape
  obtain⟨a5,c5,rfl⟩:=q_
  refine rsto (B:=K5) (vs:=[.slice a5 _ c5]) rfl rfl rfl (sl_one _ _ _) fun w6 K6 f6 _=>⟨f6.mono fun i _ hi=>by rw [hi];exact⟨hbB,by omega⟩,?_⟩
  have z6:=f6.size
  have fin:RunP X B w6 br bs g c (audS g c r (true,yf)):=by
   rw [zA7]
   refine⟨R3,⟨a5,_,c5⟩,⟨ka,kn,kc⟩,S5.away f6 fun b h hr=>hbr (h ▸ hr),K6,?_,P5.fr f6 fun b _ hb h=>(h2 b hb).2.2 h,fun b hb=>?_,fun b hb=>?_,hbr,hbB,by omega,fun i hi=>?_⟩
   ·have:=O5.fr f6 fun b _ hb h=>(N5 b hb).2 (.inl (.inl (.inr h)))
    rw [show (r.told++(tickS g c r.s).2).map bsOf=r.told.map bsOf++(tickS g c r.s).2.map bsOf from List.map_append];exact this
   ·have h3:=N5 b hb
    exact⟨by omega,fun h=>h3.2 (.inl (.inl (.inl h))),fun h=>h3.2 (.inl (.inl (.inr h))),fun h=>h3.2 (.inl (.inr h))⟩
   ·have h3:=h2 b hb
    refine⟨by omega,fun h=>?_,h3.2.2⟩
    have q_:=hR3' _ h
    rcases q_ with h|h
    ·exact h3.2.1 h
    ·omega
   ·have h3:=hX i hi
    refine⟨by omega,fun h=>?_,h3.2.2.1,fun h=>(N5 i h).2 (.inr hi),h3.2.2.2.2⟩
    have q_:=hR3' _ h
    rcases q_ with h|h
    ·exact h3.2.1 h
    ·omega
  have fr6:Fr (fun i=>B≤i∧¬X i) w w6:=(((Fr.fr (Le.e (a:=w) (b:=w2))).trans (f3.mono fun i _ hi=>⟨(hreg i hi).1,fun hx=>(hX i hx).2.1 hi⟩)).trans (f5.mono fun i _ hi=>⟨hi.1,fun hx=>(hX i hx).2.2.2.1 (zAj hi).2⟩)).trans (f6.mono fun i _ hi=>by rw [hi];exact⟨hbB,fun hx=>(hX br hx).2.2.1 rfl⟩)
  exact⟨fin,fr6⟩
theorem zJN{x:RCfg}{im:List UInt8}(hf:im.length≤4611686018427387904):
  Sp PP F.y4 #[agg x,txt im] w fun v w'=>((errN x im≠0∧v=.tuple #[.pointer none,.int .i64 (errN x im)]) ∨
   ∃g bs,cfgOk x∧imgOf im=some g∧errN x im=0∧v=.tuple #[.pointer (some ⟨bs,0,none⟩),.int .i64 0]∧SrvP (fun i=>w.heap.size≤i∧i<w'.heap.size) w.heap.size w' bs g (cfOf x) (newS (cfOf x)))∧Stp w w':=
 (zH9 hf).mono fun v w' ⟨h,e⟩=>⟨by
  rcases h with ⟨hc,rfl⟩|⟨hc,hi,rfl⟩|⟨g,bs,hc,hi,rfl,S⟩
  ·left;unfold errN;rw [if_neg hc];exact⟨by decide,rfl⟩
  ·left;unfold errN;rw [if_pos hc,if_pos hi];exact⟨by decide,rfl⟩
  ·right;exact⟨g,bs,hc,hi,zCL.2 ⟨hc,g,hi⟩,rfl,S⟩,e⟩
theorem zBj(l:List REv):(evD l).length=l.length:=by simp [evD]
theorem zJ1{l:List REv}(h:k<l.length):(evD l)[k]'(by rw [zBj];exact h)=((l[k]).tick,(l[k]).frame):=by simp [evD]
def RanT (x:RCfg) (im:List UInt8) (l:List REv) (w:World) (v:Value) (w':World):Prop:=
 (errA x im l.length≠0∧v=.tuple #[.pointer none,.int .i64 (errA x im l.length)]) ∨
 ∃g br bs X B,w.heap.size≤B∧cfgOk x∧imgOf im=some g∧errA x im l.length=0∧v=.tuple #[.pointer (some ⟨br,0,none⟩),.int .i64 0]∧RunP X B w' br bs g (cfOf x) (audR g (cfOf x) (evD l))
theorem RunP.cf{X:Nat→Prop}{br bs:Nat}{c:CfD}{r:AuD}(h:RunP X B w br bs g c r):CfOk c:=by
 obtain⟨R,vt,vk,S,_⟩:=h
 exact S.ok.2.1
instance:Elem PP 224 .nilFunc 1 8:=⟨by kernel_rfl⟩
theorem fn_one(f g:FuncId):∀u∈[Value.func (.func f) #[] #[],.func (.func g) #[] #[]],u.oneCell'=true:=by intro u hu;simp at hu;rcases hu with rfl|rfl <;> rfl
set_option maxHeartbeats 2000000 in
theorem zEt{x:RCfg}{im:List UInt8}(him:im.length≤4611686018427387904){c:Nat}{l:List REv}(h:SlF w (.slice a n c) l)(hm:EvsM w l)(hf:∀y∈l,y.frame.length≤4611686018427387904):
  Sp PP F.c4 #[agg x,txt im,.slice a n c] w fun v w'=>RanT x im l w v w'∧Stp w w':=by
 have q_:=h.len
 obtain rfl:=q_
 refine en TBok rfl ?_
 refine rbx fun b w1 n1 B1=>?_
 have B1:Bk w1 b (enc x) E.qm:=B1
 refine ite (fun h1=>?_) (fun h1=>?_)
 ·have he:errA x im l.length=2:=if_pos (by omega)
  have hv:Value.tuple #[.pointer none,.int .i64 2]=.tuple #[.pointer none,.int .i64 (errA x im l.length)]:=by rw [he]
  exact⟨.inl ⟨by rw [he];decide,hv⟩,stp⟩
 have hl1:l.length≤1000:=by omega
 refine rldG (B:=B1) rfl rfl ?_
 refine rcall (zJN him) ?_
 rintro _ w2 ⟨⟨he,rfl⟩|⟨g,bs,hc,hi,he,rfl,S⟩,e2⟩
 ·have he2:errA x im l.length=errN x im:=if_neg (by omega)
  refine ite (fun _=>?_) (fun h=>absurd he h)
  have hv:Value.tuple #[.pointer none,.int .i64 (errN x im)]=.tuple #[.pointer none,.int .i64 (errA x im l.length)]:=by rw [he2]
  exact⟨.inl ⟨by rw [he2];exact he,hv⟩,stp⟩
 have he2:errA x im l.length=0:=zBY.2 ⟨hl1,he⟩
 have z2:=e2.e.size
 refine ite (fun h=>absurd rfl h) (fun _=>?_)
 refine rbuild (cs:=[.pointer (some ⟨bs,0,none⟩),.slice none 0 0,.slice none 0 0]) rfl ?_
 refine rbx fun br w3 n3 K3=>?_
 have K3:Bk w3 br [.pointer (some ⟨bs,0,none⟩),.slice none 0 0,.slice none 0 0] E.yi:=K3
 have hbr:=n3.lo (u:=w2)
 have lbr:=K3.lt
 refine rbuildA (zero:=[.nilFunc,.nilFunc]) (sz:=1) (by kernel_rfl) (by kernel_rfl) (cs:=[.func (.func F.ql) #[] #[],.func (.func F.qm) #[] #[]]) rfl ?_
 refine ral fun bd w4 n4 D4=>?_
 have hbd:=n4.lo (u:=w3)
 have hbd2:=n4.b
 refine rsto (B:=D4) (vs:=[.func (.func F.ql) #[] #[],.func (.func F.qm) #[] #[]]) rfl rfl rfl (fn_one _ _) fun w5 D5 f5 _=>?_
 have D5:Bk w5 bd [.func (.func F.ql) #[] #[],.func (.func F.qm) #[] #[]] E.q9:=D5
 have s5:Stp w3 w5:=⟨Fr.st (Le.e (a:=w3) (b:=w4)) f5 fun i hi=>by omega⟩
 have z5:=s5.e.size
 have lbd:=D5.lt
 have Q5:RunP (fun i=>i=bd) w1.heap.size w5 br bs g (cfOf x) (audR g (cfOf x) []):=
  ⟨_,⟨none,0,0⟩,⟨none,0,0⟩,S.up (w':=w5),K3.mv (w:=w5),Own.nil _ _ _,Own.nil _ _ _,(fun b hb=>nomatch hb),(fun b hb=>nomatch hb),fun hr=>by omega,by omega,by omega,
   fun i hi=>⟨by omega,fun hr=>by omega,by omega,(fun h=>nomatch h),(fun h=>nomatch h)⟩⟩
 refine cnt TBok 32 [12,13] 32 l.length (fun k u=>RunP (fun i=>i=bd) w1.heap.size u br bs g (cfOf x) (audR g (cfOf x) ((evD l).take k))∧Fr (fun i=>w1.heap.size≤i∧¬i=bd) w5 u) rfl rfl ⟨Q5,Fr.refl _ _⟩ ?_
 rintro k G u hk ⟨Q,fu⟩
 have su:Stw w1 w5 u:=⟨fu.mono fun i _ hi=>hi.1⟩
 have zu:=fu.size
 have Du:=D5.fr fu fun h=>h.2 rfl
 have hok:=zEX (g:=g) Q.cf ((evD l).take k)
 have htk:((evD l).take k).length≤1000:=by rw [List.length_take,zBj];omega
 refine ite (fun hlt=>?_) (fun hge=>?_)
 ·have hk1:k<l.length:=by omega
  have hiy:l[k]? = some l[k]:=by simp
  have q_:∃y,y=l[k]:=⟨_,rfl⟩
  obtain⟨y,hy⟩:=q_
  rw [←hy] at hiy
  have hym:y∈l:=by rw [hy];exact List.getElem_mem hk1
  have q_:=hm y hym
  obtain⟨ps,hps⟩:=q_
  have hyf:=hf y hym
  have hnx:audR g (cfOf x) ((evD l).take (k+1))=audS g (cfOf x) (audR g (cfOf x) ((evD l).take k)) (y.tick,y.frame):=by
   rw [zHm (by rw [zBj];exact hk1),zJ1 hk1,←hy]
  refine rix (i:=k) (h.up (w':=u)) hiy fun b6 o6 A6=>?_
  refine rloadA A6 rfl ?_
  refine ral fun b7 w7 n7 X7=>?_
  refine rsto (B:=X7) (vs:=enc y) rfl rfl rfl (Enc.one _) fun w8 B8 f8 _=>?_
  have B8:Bk w8 b7 (enc y) E.qo:=B8
  have hb7:=n7.lo (u:=u)
  have t8:Stp u w8:=⟨Fr.st (Le.e (a:=u) (b:=w7)) f8 fun i hi=>by omega⟩
  have z8:=t8.e.size
  have Q8:=Q.up (u':=w8)
  have hps1:∀v,Fr (fun i=>w1.heap.size≤i) w8 v→SlF v y.picks.v ps:=fun v fv=>by
   have t:Stw w1 w8 v:=⟨fv⟩
   exact SlF.up (w:=w) hps
  have fin:∀u',RunP (fun i=>i=bd) w1.heap.size u' br bs g (cfOf x) (audS g (cfOf x) (audR g (cfOf x) ((evD l).take k)) (y.tick,y.frame))∧Fr (fun i=>w1.heap.size≤i∧¬i=bd) w8 u' →
    RunP (fun i=>i=bd) w1.heap.size u' br bs g (cfOf x) (audR g (cfOf x) ((evD l).take (k+1)))∧Fr (fun i=>w1.heap.size≤i∧¬i=bd) w5 u':=fun u' hu=>by
   rw [hnx]
   exact⟨hu.1,(fu.trans (Fr.fr t8.e)).trans hu.2⟩
  have Dt:=zE8 (y:=y) Q8 (by omega) hps1 (by omega)
  have Dc:=zE7 (y:=y) Q8 (by omega) hyf (by omega) (by omega)
  obtain⟨yt,yf,pa,pn,pc⟩:=y
  refine rld (B:=B8) rfl ?_
  cases yt with
  |true =>
   refine rixA (i:=1) (by decide) ?_
   refine rld (B:=Du.mv (w:=w8)) rfl ?_
   refine rldG (B:=B8) rfl rfl ?_
   refine rcall Dt ?_
   rintro _ w9 h9
   exact rar (by omega) ⟨rfl,hk1,fin w9 h9⟩
  |false =>
   refine rixA (i:=0) (by decide) ?_
   refine rld (B:=Du.mv (w:=w8)) rfl ?_
   refine rldG (B:=B8) rfl rfl ?_
   refine rcall Dc ?_
   rintro _ w9 h9
   exact rar (by omega) ⟨rfl,hk1,fin w9 h9⟩
 ·have hkl:k=l.length:=by omega
  have hfin:(evD l).take k=evD l:=by rw [hkl,←zBj l,List.take_length]
  rw [hfin] at Q
  exact⟨.inr ⟨g,br,bs,_,_,by have:=Le.size (a:=w) (b:=w1);omega,hc,hi,he2,rfl,Q⟩,stp⟩
theorem zAt(x:RCfg)(im:List UInt8)(l:List REv):errA x im (evD l).length=errA x im l.length:=by rw [zBj]
theorem zAH{x:RCfg}{im:List UInt8}(him:im.length≤4611686018427387904){c:Nat}{l:List REv}(h:SlF w (.slice a n c) l)(hm:EvsM w l)(hf:∀y∈l,y.frame.length≤4611686018427387904):
  Sp PP F.ye #[agg x,txt im,.slice a n c] w fun v w'=>(∃vt vl,v=.tuple #[vt,vl,.int .i64 (errA x im l.length)]∧Own w.heap.size E.qc w' vt ((toldA x im (evD l)).map bsOf)∧Own w.heap.size E.qa w' vl (liveA x im (evD l)))∧Stp w w':=by
 refine en TBok rfl ?_
 refine rbx fun b w1 n1 B1=>?_
 have B1:Bk w1 b (enc x) E.qm:=B1
 refine rldG (B:=B1) rfl rfl ?_
 refine rcall (zEt him (h.up (w':=w1)) hm.up hf) ?_
 rintro _ w2 ⟨⟨he,rfl⟩|⟨g,br,bs,X,B,hB,hc,hi,he,rfl,Q⟩,e2⟩
 ·have ht:toldA x im (evD l)=[]:=by unfold toldA;rw [if_neg (by rw [zAt];exact he)]
  have hl:liveA x im (evD l)=[]:=by unfold liveA;rw [if_neg (by rw [zAt];exact he)]
  refine ite (fun _=>?_) (fun h=>absurd he h)
  refine⟨⟨_,_,rfl,?_,?_⟩,stp⟩
  ·rw [ht];exact Own.nil _ _ _
  ·rw [hl];exact Own.nil _ _ _
 ·have ht:toldA x im (evD l)=(audR g (cfOf x) (evD l)).told:=by unfold toldA;rw [if_pos (by rw [zAt];exact he),zAW hi]
  have hl:liveA x im (evD l)=(List.range (cfOf x).workers).map fun k=>(liveW g (cfOf x).workers (audR g (cfOf x) (evD l)).s.held k:Int):=by unfold liveA;rw [if_pos (by rw [zAt];exact he),zAW hi]
  have hz:=Le.size (a:=w) (b:=w1)
  obtain⟨R,⟨ta,tn,tc⟩,⟨ka,kn,kc⟩,S,K,O1,O2,_⟩:=Q
  dsimp only at K O1 O2
  refine ite (fun h=>absurd rfl h) (fun _=>?_)
  refine drawR TBok mixed (fun _=>False) [0,1,2,3,4,5,6,7,8,9,10,11] (by kernel_rfl) fun w3 e3 _=>?_
  refine tld (B:=K) rfl not_false (tld (B:=K) rfl not_false ?_)
  refine rcall (zDl (S.up (w':=w3))) ?_
  rintro vl w4 ⟨O4,e4⟩
  refine⟨e4.e,?_⟩
  have hv:Value.tuple #[.slice ta tn tc,vl,.int .i64 0]=.tuple #[.slice ta tn tc,vl,.int .i64 (errA x im l.length)]:=by rw [he]
  refine⟨⟨_,_,hv,?_,?_⟩,stp⟩
  ·rw [ht];exact(O1.up (w':=w4)).mono (by omega)
  ·rw [hl];exact O4.older
theorem zAT{x:RCfg}{im:List UInt8}(him:im.length≤4611686018427387904){c:Nat}{l:List REv}(h:SlF w (.slice a n c) l)(hm:EvsM w l)(hf:∀y∈l,y.frame.length≤4611686018427387904):
  Sp PP F.yu #[agg x,txt im,.slice a n c] w fun v w'=>(∃vk,v=.tuple #[vk,.int .i64 (errA x im l.length)]∧Own w.heap.size E.qa w' vk (tookA x im (evD l)))∧Stp w w':=by
 refine en TBok rfl ?_
 refine rbx fun b w1 n1 B1=>?_
 have B1:Bk w1 b (enc x) E.qm:=B1
 refine rldG (B:=B1) rfl rfl ?_
 refine rcall (zEt him (h.up (w':=w1)) hm.up hf) ?_
 rintro _ w2 ⟨⟨he,rfl⟩|⟨g,br,bs,X,B,hB,hc,hi,he,rfl,Q⟩,e2⟩
 ·have ht:tookA x im (evD l)=[]:=by unfold tookA;rw [if_neg (by rw [zAt];exact he)]
  refine ite (fun _=>?_) (fun h=>absurd he h)
  refine⟨⟨_,rfl,?_⟩,stp⟩
  rw [ht];exact Own.nil _ _ _
 ·have ht:tookA x im (evD l)=(audR g (cfOf x) (evD l)).took:=by unfold tookA;rw [if_pos (by rw [zAt];exact he),zAW hi]
  have hz:=Le.size (a:=w) (b:=w1)
  obtain⟨R,⟨ta,tn,tc⟩,⟨ka,kn,kc⟩,S,K,O1,O2,_⟩:=Q
  dsimp only at K O1 O2
  refine ite (fun h=>absurd rfl h) (fun _=>?_)
  refine rld (B:=K) rfl ?_
  have hv:Value.tuple #[.slice ka kn kc,.int .i64 0]=.tuple #[.slice ka kn kc,.int .i64 (errA x im l.length)]:=by rw [he]
  refine⟨⟨_,hv,?_⟩,stp⟩
  rw [ht];exact O2.mono (by omega)
def calmL (l:List REv):List REv:=l.map fun y=>⟨y.tick,y.frame,none,0,0⟩
theorem zJU(l:List REv):evD (calmL l)=evD l:=by simp [calmL,evD]
theorem zCt(l:List REv):(calmL l).length=l.length:=by simp [calmL]
theorem zK7(l:List REv):calmL (calmL l)=calmL l:=by simp [calmL]
theorem calm_m(w:World)(l:List REv):EvsM w (calmL l):=fun y hy=>by
 have q_:=List.mem_map.1 hy
 obtain⟨z,_,rfl⟩:=q_
 exact⟨[],SlF.nil w⟩
theorem zAL{c:Nat}{l:List REv}(h:SlF w (.slice a n c) l)(hl:l.length≤1000000):Sp PP F.cd #[.slice a n c] w fun v w'=>Own w.heap.size E.qo w' v (calmL l)∧Stp w w':=by
 have q_:=h.len
 obtain rfl:=q_
 refine en TBok rfl ?_
 refine cnt1 TBok 8 [4,5] 3 8 l.length (fun k v u=>Own w.heap.size E.qo u v (calmL (l.take k))∧Stp w u) rfl rfl ⟨Own.nil _ _ _,stp⟩ ?_
 rintro k v G u hk ⟨O,su⟩
 refine ite (fun hlt=>?_) (fun hge=>?_)
 ·have hk1:k<l.length:=by omega
  have hiy:l[k]? = some l[k]:=by simp
  refine rix (i:=k) (h.up (w':=u)) hiy fun b6 o6 A6=>?_
  refine rloadA A6 rfl ?_
  refine ral fun b7 w7 n7 X7=>?_
  refine rsto (B:=X7) (vs:=enc l[k]) rfl rfl rfl (Enc.one _) fun w8 B8 f8 _=>?_
  have B8:Bk w8 b7 (enc l[k]) E.qo:=B8
  have hb7:=n7.lo (u:=u)
  have t8:Stp u w8:=⟨Fr.st (Le.e (a:=u) (b:=w7)) f8 fun i hi=>by omega⟩
  refine rld (B:=B8) rfl ?_
  refine rld (B:=B8) rfl ?_
  refine rbuild (cs:=enc (⟨l[k].tick,l[k].frame,none,0,0⟩:REv)) rfl ?_
  refine rbs1 (⟨l[k].tick,l[k].frame,none,0,0⟩:REv) rfl rfl (by decide) fun b9 w9 e9 _ S9=>?_
  have hcl:(calmL (l.take k)).length≤1000000:=by rw [zCt,List.length_take];omega
  refine rapp1 (u:=w) ⟨rfl,rfl⟩ (O.up (w':=w9)) S9 (by omega) fun v10 w10 O10 f10 s10=>?_
  refine rar (by omega) ⟨rfl,hk1,?_,stp⟩
  have hcc:calmL (l.take (k+1))=calmL (l.take k)++[⟨l[k].tick,l[k].frame,none,0,0⟩]:=by rw [zAa hk1];unfold calmL;rw [List.map_append];rfl
  rw [hcc];exact O10
 ·have hkl:k=l.length:=by omega
  rw [hkl,List.take_length] at O
  exact⟨O,su⟩
theorem zDJ{x:RCfg}{im:List UInt8}{c:Nat}{l:List REv}(h:SlF w (.slice a n c) l):
  Sp PP F.qau #[agg x,txt im,.slice a n c] w fun v w'=>(v=.bool true∨(v=.bool false∧(l.length≤1000→EvsS l)∧l.length≤1100∧im.length≤400))∧Stp w w':=by
 have q_:=h.len
 obtain rfl:=q_
 refine en TBok rfl ?_
 refine rbx fun b w1 n1 B1=>?_
 have big:Sp PP F.yz #[.slice a l.length c] w1 fun v w'=>(v=.bool true∨(v=.bool false∧EvsS l))∧Stp w1 w':=zKU h.up
 have tail:¬(400:Int)<(⟨im.toArray⟩:ByteArray).size→Sp PP F.yz #[.slice a l.length c] w1 fun v w'=>(v=.bool true∨(v=.bool false∧EvsS l))∧Stp w1 w':=fun _=>big
 clear tail
 refine rld (B:=B1) rfl ?_
 refine ite (fun h1=>?_) (fun h1=>?_)
 ·exact⟨.inl rfl,stp⟩
 refine rld (B:=B1) rfl ?_
 refine ite (fun h2=>?_) (fun h2=>?_)
 ·refine rld (B:=B1) rfl ?_
  refine ite (fun h3=>?_) (fun h3=>?_)
  ·exact⟨.inl rfl,stp⟩
  refine ite (fun h4=>?_) (fun h4=>?_)
  ·exact⟨.inl rfl,stp⟩
  rw [zAS] at h4
  refine rcall big ?_
  rintro v w2 ⟨rfl|⟨rfl,hs⟩,e2⟩
  ·refine ite (fun h5=>?_) (fun h5=>?_)
   ·exact⟨.inl rfl,stp⟩
   refine ite (fun h6=>?_) (fun h6=>?_)
   ·exact⟨.inl rfl,stp⟩
   exact⟨.inr ⟨rfl,fun h=>absurd h (by omega),by omega,by omega⟩,stp⟩
  ·refine ite (fun h6=>?_) (fun h6=>?_)
   ·exact⟨.inl rfl,stp⟩
   exact⟨.inr ⟨rfl,fun _=>hs,by omega,by omega⟩,stp⟩
 ·refine ite (fun h4=>?_) (fun h4=>?_)
  ·exact⟨.inl rfl,stp⟩
  rw [zAS] at h4
  refine rcall big ?_
  rintro v w2 ⟨rfl|⟨rfl,hs⟩,e2⟩
  ·refine ite (fun h5=>?_) (fun h5=>?_)
   ·exact⟨.inl rfl,stp⟩
   refine ite (fun h6=>?_) (fun h6=>?_)
   ·exact⟨.inl rfl,stp⟩
   exact⟨.inr ⟨rfl,fun h=>absurd h (by omega),by omega,by omega⟩,stp⟩
  ·refine ite (fun h6=>?_) (fun h6=>?_)
   ·exact⟨.inl rfl,stp⟩
   exact⟨.inr ⟨rfl,fun _=>hs,by omega,by omega⟩,stp⟩
abbrev x1:RCfg:=⟨1,1,1,9,9⟩
def ev0:List REv:=[⟨false,[7,1,0,1],⟨none,0,0⟩⟩,⟨false,[8,1,0,1],⟨none,0,0⟩⟩,⟨true,[],⟨none,0,0⟩⟩,⟨true,[],⟨none,0,0⟩⟩,⟨true,[],⟨none,0,0⟩⟩]
theorem audR0:audR g0 c0 (evD ev0)=⟨⟨[],[none]⟩,[[8,252,1],[7,0,1,1,0]],[7]⟩:=by
 have a1:audS g0 c0 ⟨newS c0,[],[]⟩ (false,[7,1,0,1])=⟨⟨[x7],[none]⟩,[],[7]⟩:=by
  rw [zBx (by rw [come7])];rw [come7,req7];rfl
 have a2:audS g0 c0 ⟨⟨[x7],[none]⟩,[],[7]⟩ (false,[8,1,0,1])=⟨⟨[x7],[none]⟩,[[8,252,1]],[7]⟩:=by
  rw [zBW (t:=[8,252,1]) (by rw [come8])];rw [come8];rfl
 have a3:audS g0 c0 ⟨⟨[x7],[none]⟩,[[8,252,1]],[7]⟩ (true,[])=⟨⟨[],h0 1⟩,[[8,252,1]],[7]⟩:=by
  rw [zA7,tick7a];rfl
 have a4:audS g0 c0 ⟨⟨[],h0 1⟩,[[8,252,1]],[7]⟩ (true,[])=⟨⟨[],[none]⟩,[[8,252,1],[7,0,1,1,0]],[7]⟩:=by
  rw [zA7,tick7b];rfl
 have a5:audS g0 c0 ⟨⟨[],[none]⟩,[[8,252,1],[7,0,1,1,0]],[7]⟩ (true,[])=⟨⟨[],[none]⟩,[[8,252,1],[7,0,1,1,0]],[7]⟩:=by
  rw [zA7,tick7c];rfl
 show audS g0 c0 (audS g0 c0 (audS g0 c0 (audS g0 c0 (audS g0 c0 ⟨newS c0,[],[]⟩ (false,[7,1,0,1])) (false,[8,1,0,1])) (true,[])) (true,[])) (true,[])=_
 rw [a1,a2,a3,a4,a5]
theorem cfg1:cfgOk x1:=by unfold cfgOk;decide
theorem err0:errA x1 im0 ev0.length=0:=zBY.2 ⟨by decide,zCL.2 ⟨cfg1,g0,im0_g⟩⟩
theorem err0':errA x1 im0 (evD ev0).length=0:=by rw [zAt];exact err0
theorem imgE:imgOf []=none:=by
 cases e:imgOf [] with
 |none=>rfl
 |some g=>unfold imgOf rdI at e;cases e
theorem errE:errA x1 [] ev0.length=30:=by
 unfold errA errN
 rw [if_neg (by decide),if_pos cfg1,if_pos imgE]
theorem told0:toldA x1 im0 (evD ev0)=[[8,252,1],[7,0,1,1,0]]:=by
 unfold toldA;rw [if_pos err0',zAW im0_g]
 show (audR g0 c0 (evD ev0)).told=_
 rw [audR0]
theorem took0:tookA x1 im0 (evD ev0)=[7]:=by
 unfold tookA;rw [if_pos err0',zAW im0_g]
 show (audR g0 c0 (evD ev0)).took=_
 rw [audR0]
theorem live0:liveA x1 im0 (evD ev0)=[0]:=by
 unfold liveA;rw [if_pos err0',zAW im0_g]
 show (List.range c0.workers).map (fun k=>(liveW g0 c0.workers (audR g0 c0 (evD ev0)).s.held k:Int))=_
 rw [audR0];exact live7
theorem ev0_m(w:World):EvsM w ev0:=fun y hy=>by
 simp only [ev0,List.mem_cons,List.not_mem_nil,or_false] at hy
 rcases hy with rfl|rfl|rfl|rfl|rfl <;> exact⟨[],SlF.nil w⟩
theorem ev0_f:∀y∈ev0,y.frame.length≤4611686018427387904:=fun y hy=>by
 simp only [ev0,List.mem_cons,List.not_mem_nil,or_false] at hy
 rcases hy with rfl|rfl|rfl|rfl|rfl <;> decide
set_option maxHeartbeats 2000000 in
theorem zAU:Sp PP F.dz #[] w fun v w'=>v=.bool true∧Stp w w':=by
 refine en TBok rfl ?_
 refine rbuild (cs:=enc x1) rfl ?_
 refine ral fun b w1 n1 Z1=>?_
 refine rsto (B:=Z1) (vs:=enc x1) rfl rfl rfl (Enc.one _) fun w2 B2 f2 _=>?_
 have B2:Bk w2 b (enc x1) E.qm:=B2
 have s2:Stp w w2:=⟨Fr.st (Le.e (a:=w) (b:=w1)) f2 fun i hi=>by subst hi;exact n1.lo⟩
 refine rbuild (cs:=enc (⟨false,[7,1,0,1],⟨none,0,0⟩⟩:REv)) rfl ?_
 refine rbuild (cs:=enc (⟨false,[8,1,0,1],⟨none,0,0⟩⟩:REv)) rfl ?_
 refine rbuild (cs:=enc (⟨true,[],⟨none,0,0⟩⟩:REv)) rfl ?_
 refine rbuild (cs:=enc (⟨true,[],⟨none,0,0⟩⟩:REv)) rfl ?_
 refine rbuild (cs:=enc (⟨true,[],⟨none,0,0⟩⟩:REv)) rfl ?_
 refine rbs (vs:=[agg (⟨false,[7,1,0,1],⟨none,0,0⟩⟩:REv),agg (⟨false,[8,1,0,1],⟨none,0,0⟩⟩:REv),agg (⟨true,[],⟨none,0,0⟩⟩:REv),agg (⟨true,[],⟨none,0,0⟩⟩:REv),agg (⟨true,[],⟨none,0,0⟩⟩:REv)]) ev0 rfl rfl rfl (by decide) fun b3 w3 n3 S3=>?_
 have s3:Stp w2 w3:=⟨n3.ext⟩
 refine rldG (B:=B2) rfl rfl ?_
 have D4:Sp PP F.ye #[agg x1,txt im0,.slice (some ⟨b3,0,none⟩) 5 5] w3 fun v w'=>(∃vt vl,v=.tuple #[vt,vl,.int .i64 0]∧Own w3.heap.size E.qc w' vt (([[8,252,1],[7,0,1,1,0]]:List (List UInt8)).map bsOf)∧Own w3.heap.size E.qa w' vl ([0]:List Int))∧Stp w3 w':=by
  have:=zAH (x:=x1) (im:=im0) (l:=ev0) (w:=w3) (by decide) S3 (ev0_m _) ev0_f
  rw [err0,told0,live0] at this;exact this
 refine rcall D4 ?_
 rintro _ w4 ⟨⟨vt,vl,rfl,O4,P4⟩,e4⟩
 refine rldG (B:=B2) rfl rfl ?_
 have D5:Sp PP F.yu #[agg x1,txt im0,.slice (some ⟨b3,0,none⟩) 5 5] w4 fun v w'=>(∃vk,v=.tuple #[vk,.int .i64 0]∧Own w4.heap.size E.qa w' vk ([7]:List Int))∧Stp w4 w':=by
  have:=zAT (x:=x1) (im:=im0) (l:=ev0) (w:=w4) (by decide) (S3.up (w':=w4)) (ev0_m _) ev0_f
  rw [err0,took0] at this;exact this
 refine rcall D5 ?_
 rintro _ w5 ⟨⟨vk,rfl,O5⟩,e5⟩
 refine rldG (B:=B2) rfl rfl ?_
 have D6:Sp PP F.ye #[agg x1,txt [],.slice (some ⟨b3,0,none⟩) 5 5] w5 fun v w'=>(∃vt vl,v=.tuple #[vt,vl,.int .i64 30])∧Stp w5 w':=by
  have:=zAH (x:=x1) (im:=[]) (l:=ev0) (w:=w5) (by decide) (S3.up (w':=w5)) (ev0_m _) ev0_f
  rw [errE] at this
  exact this.mono fun v w' ⟨⟨vt,vl,h,_⟩,e⟩=>⟨⟨vt,vl,h⟩,e⟩
 refine rcall D6 ?_
 rintro _ w6 ⟨⟨vt6,vl6,rfl⟩,e6⟩
 refine ite (fun _=>?_) (fun h=>absurd rfl h)
 refine rbs (vs:=[txt [8,252,1],txt [7,0,1,1,0]]) [bsOf [8,252,1],bsOf [7,0,1,1,0]] rfl rfl rfl (by decide) fun b7 w7 n7 S7=>?_
 have s7:Stp w6 w7:=⟨n7.ext⟩
 have O7:=O4.up (w':=w7)
 have q_:=O7.shape
 obtain⟨a7,c7,rfl⟩:=q_
 refine rcall ((zBI O7.sl S7 (by simp)).tt rfl) ?_
 rintro _ w8 ⟨rfl,e8⟩
 refine rbs1 (0:Int) rfl rfl (by decide) fun b9 w9 e9 _ S9=>?_
 have P9:=P4.up (w':=w9)
 have q_:=P9.shape
 obtain⟨a9,c9,rfl⟩:=q_
 refine rcall ((zAQ P9.sl S9 (by simp)).tt rfl) ?_
 rintro _ w10 ⟨rfl,e10⟩
 refine ite (fun _=>?_) (fun h=>absurd rfl h)
 refine rbs1 (7:Int) rfl rfl (by decide) fun b11 w11 e11 _ S11=>?_
 have O11:=O5.up (w':=w11)
 have q_:=O11.shape
 obtain⟨a11,c11,rfl⟩:=q_
 refine rcall ((zAQ O11.sl S11 (by simp)).tt rfl) ?_
 rintro _ w12 ⟨rfl,e12⟩
 refine ite (fun _=>?_) (fun h=>absurd rfl h)
 refine rcall (zAL (S3.up (w':=w12)) (by decide)) ?_
 rintro v13 w13 ⟨O13,e13⟩
 have q_:=O13.shape
 obtain⟨a13,c13,rfl⟩:=q_
 refine ite (fun _=>?_) (fun h=>absurd (by simp [zCt,ev0]) h)
 exact⟨rfl,stp⟩
theorem zHY{x:RCfg}{im:List UInt8}(l:List EvD):(toldA x im l).length≤64000∧(tookA x im l).length≤1000∧(liveA x im l).length≤16:=by
 unfold toldA tookA liveA
 by_cases h:errA x im l.length=0
 ·rw [if_pos h,if_pos h,if_pos h]
  have q_:=zBY.1 h
  obtain⟨h1,h2⟩:=q_
  have q_:=zCL.1 h2
  obtain⟨hc,g,hi⟩:=q_
  have hcf:CfOk (cfOf x):=zGR hc
  have:=zEX (g:=graA im) hcf l
  have hw:=hcf.workers
  refine⟨by omega,by omega,?_⟩
  rw [List.length_map,List.length_range];omega
 ·rw [if_neg h,if_neg h,if_neg h];simp
theorem zHt(x:RCfg)(im:List UInt8)(l:List REv):errA x im (calmL l).length=errA x im l.length:=by rw [zCt]
theorem zJE{c c2:Nat}{l:List REv}(h:SlF w (.slice a n c) (calmL l))(h2:SlF w (.slice a2 n2 c2) (calmL l))(hl:l.length≤1000000):
  Sp PP F.qan #[.slice a n c,.slice a2 n2 c2] w fun v w'=>v=.bool true∧Stp w w':=by
 have q_:=h.len
 obtain rfl:=q_
 have q_:=h2.len
 obtain rfl:=q_
 have hcl:=zCt l
 refine en TBok rfl ?_
 refine ite (fun h=>absurd rfl h) (fun _=>?_)
 refine cnt TBok 6 [4] 5 l.length (fun k u=>Stp w u) rfl rfl stp ?_
 rintro k G u hk su
 refine ite (fun hlt=>?_) (fun hge=>?_)
 ·have hk1:k<l.length:=by omega
  have hi:(calmL l)[k]? = some ⟨l[k].tick,l[k].frame,none,0,0⟩:=by simp [calmL,hk1]
  refine drawR TBok mixed (fun _=>False) [0,1,2,3,4,5,6,7,8,9,10,11,12,13,14,15,16,17,18,19,20,21,22,23,24,25,26,27,28,29,30,31,32,33,34,35,36,37] (by kernel_rfl) fun u1 e1 _=>?_
  refine tix (h.up (w':=u1)) hi fun b2 o2 A2 _=>tload1 (A2.cell 0 rfl) not_false ?_
  refine tix (h2.up (w':=u1)) hi fun b3 o3 A3 _=>tload1 (A3.cell 0 rfl) not_false ?_
  refine tbne (fun h=>absurd rfl h) (fun _=>?_)
  refine tix (h.up (w':=u1)) hi fun b4 o4 A4 _=>tload1 (A4.cell 1 rfl) not_false ?_
  refine tix (h2.up (w':=u1)) hi fun b5 o5 A5 _=>tload1 (A5.cell 1 rfl) not_false ?_
  refine tsne (fun h=>absurd rfl h) (fun _=>?_)
  refine tix (h.up (w':=u1)) hi fun b6 o6 A6 _=>tload1 (A6.cell 2 rfl) not_false ?_
  refine tix (h2.up (w':=u1)) hi fun b7 o7 A7 _=>tload1 (A7.cell 2 rfl) not_false ?_
  refine rcall ((zAQ (la:=[]) (lb:=[]) (SlF.nil u1) (SlF.nil u1) (by simp)).tt rfl) ?_
  rintro _ u2 ⟨rfl,e2⟩
  refine⟨e2.e,?_⟩
  exact rar (by omega) ⟨rfl,hk1,stp⟩
 ·exact⟨rfl,su⟩
set_option maxHeartbeats 4000000 in
theorem zFQ{x:RCfg}{im:List UInt8}(him:im.length≤4611686018427387904){c:Nat}{l:List REv}(h:SlF w (.slice a n c) l)(hm:EvsM w l)(hf:∀y∈l,y.frame.length≤4611686018427387904):
  Sp PP F.dd #[agg x,txt im,.slice a n c] w fun v w'=>v=.bool true∧Stp w w':=by
 have q_:=h.len
 obtain rfl:=q_
 refine en TBok rfl ?_
 refine rbx fun b w1 n1 B1=>?_
 have B1:Bk w1 b (enc x) E.qm:=B1
 refine rldG (B:=B1) rfl rfl ?_
 refine rcall (zDJ h.up) ?_
 rintro _ w2 ⟨rfl|⟨rfl,hs,hl,hi⟩,e2⟩
 ·exact⟨rfl,stp⟩
 have hf':∀y∈calmL l,y.frame.length≤4611686018427387904:=fun y hy=>by
  have q_:=List.mem_map.1 hy
  obtain⟨z,hz,rfl⟩:=q_
  exact hf z hz
 have hlen:=zHY (x:=x) (im:=im) (evD l)
 have hlm:((toldA x im (evD l)).map bsOf).length=(toldA x im (evD l)).length:=List.length_map ..
 refine rldG (B:=B1) rfl rfl ?_
 refine rcall (zAH him (h.up (w':=w2)) hm.up hf) ?_
 rintro _ w3 ⟨⟨vt,vl,rfl,O3,P3⟩,e3⟩
 refine drawR TBok mixed (fun _=>False) [0,1,2,3,4,5,6,7,8,9,10,11] (by kernel_rfl) fun w4 e4 _=>?_
 refine tldG (ds:=enc x) (B:=B1) rfl (Enc.len _) not_false ?_
 refine rcall (zAL (h.up (w':=w4)) (by omega)) ?_
 rintro v5 w5 ⟨O5,e5⟩
 refine⟨e5.e,?_⟩
 have q_:=O5.shape
 obtain⟨a5,c5,rfl⟩:=q_
 have D6:=zAH (x:=x) (w:=w5) him O5.sl (calm_m _ _) hf'
 rw [zHt,zJU] at D6
 refine rcall D6 ?_
 rintro _ w6 ⟨⟨vt6,vl6,rfl,O6,P6⟩,e6⟩
 refine⟨e6.e,?_⟩
 refine rldG (B:=B1) rfl rfl ?_
 refine rcall (zAT him (h.up (w':=w6)) hm.up hf) ?_
 rintro _ w7 ⟨⟨vk7,rfl,O7⟩,e7⟩
 refine drawR TBok mixed (fun _=>False) [0,1,2,3,4,5,6,7,8,9] (by kernel_rfl) fun w8 e8 _=>?_
 refine tldG (ds:=enc x) (B:=B1) rfl (Enc.len _) not_false ?_
 refine rcall (zAL (h.up (w':=w8)) (by omega)) ?_
 rintro v9 w9 ⟨O9,e9⟩
 refine⟨e9.e,?_⟩
 have q_:=O9.shape
 obtain⟨a9,c9,rfl⟩:=q_
 have D10:=zAT (x:=x) (w:=w9) him O9.sl (calm_m _ _) hf'
 rw [zHt,zJU] at D10
 refine rcall D10 ?_
 rintro _ w10 ⟨⟨vk10,rfl,O10⟩,e10⟩
 refine⟨e10.e,?_⟩
 refine rcall zAU ?_
 rintro _ w11 ⟨rfl,e11⟩
 have O3:=O3.up (w':=w11)
 have P3:=P3.up (w':=w11)
 have O6:=O6.up (w':=w11)
 have P6:=P6.up (w':=w11)
 have O7:=O7.up (w':=w11)
 have O10:=O10.up (w':=w11)
 have q_:=O3.shape
 obtain⟨a13,c13,rfl⟩:=q_
 have q_:=P3.shape
 obtain⟨a14,c14,rfl⟩:=q_
 have q_:=O6.shape
 obtain⟨a16,c16,rfl⟩:=q_
 have q_:=P6.shape
 obtain⟨a17,c17,rfl⟩:=q_
 have q_:=O7.shape
 obtain⟨a18,c18,rfl⟩:=q_
 have q_:=O10.shape
 obtain⟨a19,c19,rfl⟩:=q_
 refine rcall ((zBI O3.sl O6.sl (by omega)).tt rfl) ?_
 rintro _ w12 ⟨rfl,e12⟩
 refine rcall ((zAQ (P3.sl.up (w':=w12)) (P6.sl.up (w':=w12)) (by omega)).tt rfl) ?_
 rintro _ w13 ⟨rfl,e13⟩
 refine ite (fun _=>?_) (fun h=>absurd rfl h)
 refine rcall ((zAQ (O7.sl.up (w':=w13)) (O10.sl.up (w':=w13)) (by omega)).tt rfl) ?_
 rintro _ w14 ⟨rfl,e14⟩
 refine ite (fun _=>?_) (fun h=>absurd rfl h)
 refine rcall (zAL (h.up (w':=w14)) (by omega)) ?_
 rintro v15 w15 ⟨O15,e15⟩
 have q_:=O15.shape
 obtain⟨a15,c15,rfl⟩:=q_
 refine rcall (zAL O15.sl (by rw [zCt];omega)) ?_
 rintro v16 w16 ⟨O16,e16⟩
 rw [zK7] at O16
 have q_:=O16.shape
 obtain⟨a20,c20,rfl⟩:=q_
 refine rcall (zAL (h.up (w':=w16)) (by omega)) ?_
 rintro v17 w17 ⟨O17,e17⟩
 have q_:=O17.shape
 obtain⟨a21,c21,rfl⟩:=q_
 refine rcall (zJE (O16.sl.up (w':=w17)) O17.sl (by omega)) ?_
 rintro _ w18 ⟨rfl,e18⟩
 exact⟨rfl,stp⟩
theorem zIw(l:List REv)(p:Nat):evD (l.take p)=(evD l).take p:=by simp [evD,List.map_take]
theorem zLd{x:RCfg}{im:List UInt8}{l:List REv}{p:Nat}(h:errA x im l.length=0):errA x im (l.take p).length=0∧toldA x im (evD (l.take p)) <+: toldA x im (evD l)∧tookA x im (evD (l.take p)) <+: tookA x im (evD l):=by
 have q_:=zBY.1 h
 obtain⟨h1,h2⟩:=q_
 have q_:=zCL.1 h2
 obtain⟨hc,g,hi⟩:=q_
 have h3:errA x im (l.take p).length=0:=zBY.2 ⟨by rw [List.length_take];omega,h2⟩
 have h4:=zKw (g:=graA im) (zGR hc) ((evD l).take p) ((evD l).drop p)
 rw [List.take_append_drop] at h4
 refine⟨h3,?_,?_⟩
 ·unfold toldA
  rw [if_pos (by rw [zAt];exact h3),if_pos (by rw [zAt];exact h),zIw];exact h4.1
 ·unfold tookA
  rw [if_pos (by rw [zAt];exact h3),if_pos (by rw [zAt];exact h),zIw];exact h4.2
theorem zLc{x:RCfg}{im:List UInt8}{l:List REv}{p:Nat}(h:errA x im (l.take p).length≠errA x im l.length):errA x im l.length=2:=by
 unfold errA at h ⊢
 rw [List.length_take] at h
 by_cases h1:1000<l.length
 ·rw [if_pos h1]
 ·rw [if_neg h1,if_neg (by omega)] at h
  exact absurd rfl h
set_option maxHeartbeats 4000000 in
theorem zFb{x:RCfg}{im:List UInt8}(him:im.length≤4611686018427387904){c:Nat}{l:List REv}{at':Int}(h:SlF w (.slice a n c) l)(hm:EvsM w l)(hf:∀y∈l,y.frame.length≤4611686018427387904):
  Sp PP F.pz #[agg x,txt im,.slice a n c,.int .i64 at'] w fun v w'=>v=.bool true∧Stp w w':=by
 have q_:=h.len
 obtain rfl:=q_
 refine en TBok rfl ?_
 refine rbx fun b w1 n1 B1=>?_
 have B1:Bk w1 b (enc x) E.qm:=B1
 refine rldG (B:=B1) rfl rfl ?_
 refine rcall (zDJ h.up) ?_
 rintro _ w2 ⟨rfl|⟨rfl,hs,hl,hi⟩,e2⟩
 ·exact⟨rfl,stp⟩
 refine ite (fun h1=>?_) (fun h1=>?_)
 ·exact⟨rfl,stp⟩
 refine ite (fun h2=>?_) (fun h2=>?_)
 ·exact⟨rfl,stp⟩
 have q_:∃p:Nat,at'=(p:Int):=⟨at'.toNat,by omega⟩
 obtain⟨p,hp⟩:=q_
 subst hp
 have hpl:p≤l.length:=by omega
 have hlt:(l.take p).length=p:=by rw [List.length_take];omega
 have hmt:EvsM w (l.take p):=fun y hy=>hm y (List.mem_of_mem_take hy)
 have hft:∀y∈l.take p,y.frame.length≤4611686018427387904:=fun y hy=>hf y (List.mem_of_mem_take hy)
 refine drawR TBok mixed (fun _=>False) [0,1,2,3,4,5,6,7,8,9,10,11,12] (by kernel_rfl) fun w3 e3 _=>?_
 refine tldG (ds:=enc x) (B:=B1) rfl (Enc.len _) not_false ?_
 refine tslB none (some p) (h.up (w':=w3)) (Nat.zero_le _) hpl fun a4 c4 S4=>?_
 have S4:SlF w3 (.slice a4 p c4) (l.take p):=S4
 refine rcall (zAH him S4 (hmt.up (w':=w3)) hft) ?_
 rintro _ w5 ⟨⟨vt,vl,rfl,O5,P5⟩,e5⟩
 refine⟨e5.e,?_⟩
 refine rldG (B:=B1) rfl rfl ?_
 refine rcall (zAH him (h.up (w':=w5)) hm.up hf) ?_
 rintro _ w6 ⟨⟨vt6,vl6,rfl,O6,P6⟩,e6⟩
 refine drawR TBok mixed (fun _=>False) [0,1,2,3,4,5,6,7,8,9,10] (by kernel_rfl) fun w7 e7 _=>?_
 refine tldG (ds:=enc x) (B:=B1) rfl (Enc.len _) not_false ?_
 refine tslB none (some p) (h.up (w':=w7)) (Nat.zero_le _) hpl fun a8 c8 S8=>?_
 have S8:SlF w7 (.slice a8 p c8) (l.take p):=S8
 refine rcall (zAT him S8 (hmt.up (w':=w7)) hft) ?_
 rintro _ w9 ⟨⟨vk9,rfl,O9⟩,e9⟩
 refine⟨e9.e,?_⟩
 refine rldG (B:=B1) rfl rfl ?_
 refine rcall (zAT him (h.up (w':=w9)) hm.up hf) ?_
 rintro _ w10 ⟨⟨vk10,rfl,O10⟩,e10⟩
 refine ite (fun hne=>?_) (fun heq=>?_)
 ·refine rcall zAU ?_
  rintro _ w11 ⟨rfl,e11⟩
  refine ite (fun h3=>?_) (fun h3=>?_)
  ·refine ite (fun _=>?_) (fun h=>absurd rfl h)
   exact⟨rfl,stp⟩
  ·have hq:=zLc h3
   refine ite (fun _=>?_) (fun h=>absurd hq h)
   refine ite (fun _=>?_) (fun h=>absurd rfl h)
   exact⟨rfl,stp⟩
 ·have he:errA x im l.length=0:=by
   apply Classical.byContradiction;exact fun h=>heq h
  have q_:=zLd (p:=p) he
  obtain⟨he1,hp1,hp2⟩:=q_
  have hlen:=zHY (x:=x) (im:=im) (evD l)
  have hlm:((toldA x im (evD l)).map bsOf).length=(toldA x im (evD l)).length:=List.length_map ..
  have hlm2:((toldA x im (evD (l.take p))).map bsOf).length=(toldA x im (evD (l.take p))).length:=List.length_map ..
  have hl1:=hp1.length_le
  have hl2:=hp2.length_le
  have q1:((toldA x im (evD l)).map bsOf).take ((toldA x im (evD (l.take p))).map bsOf).length=(toldA x im (evD (l.take p))).map bsOf:=by
   rw [hlm2,←List.map_take];congr 1;exact(List.prefix_iff_eq_take.1 hp1).symm
  have q2:(tookA x im (evD l)).take (tookA x im (evD (l.take p))).length=tookA x im (evD (l.take p)):=(List.prefix_iff_eq_take.1 hp2).symm
  refine rcall zAU ?_
  rintro _ w11 ⟨rfl,e11⟩
  refine ite (fun _=>?_) (fun h=>absurd he1 h)
  have O5:=O5.up (w':=w11)
  have O6:=O6.up (w':=w11)
  have O9:=O9.up (w':=w11)
  have O10:=O10.up (w':=w11)
  have q_:=O5.shape
  obtain⟨a15,c15,rfl⟩:=q_
  have q_:=O6.shape
  obtain⟨a16,c16,rfl⟩:=q_
  have q_:=O9.shape
  obtain⟨a19,c19,rfl⟩:=q_
  have q_:=O10.shape
  obtain⟨a20,c20,rfl⟩:=q_
  refine ite (fun _=>?_) (fun h=>absurd (by omega) h)
  refine rslB none (some ((toldA x im (evD (l.take p))).map bsOf).length) O6.sl (Nat.zero_le _) (by show ((toldA x im (evD (l.take p))).map bsOf).length≤((toldA x im (evD l)).map bsOf).length;omega) fun a21 c21 S21=>?_
  have S21:SlF w11 (.slice a21 ((toldA x im (evD (l.take p))).map bsOf).length c21) (((toldA x im (evD l)).map bsOf).take ((toldA x im (evD (l.take p))).map bsOf).length):=S21
  rw [q1] at S21
  refine rcall ((zBI O5.sl S21 (by omega)).tt rfl) ?_
  rintro _ w12 ⟨rfl,e12⟩
  refine ite (fun _=>?_) (fun h=>absurd he1 h)
  refine ite (fun _=>?_) (fun h=>absurd he h)
  refine ite (fun _=>?_) (fun h=>absurd (by omega) h)
  refine rslB none (some (tookA x im (evD (l.take p))).length) (O10.sl.up (w':=w12)) (Nat.zero_le _) (by show (tookA x im (evD (l.take p))).length≤(tookA x im (evD l)).length;omega) fun a22 c22 S22=>?_
  have S22:SlF w12 (.slice a22 (tookA x im (evD (l.take p))).length c22) ((tookA x im (evD l)).take (tookA x im (evD (l.take p))).length):=S22
  rw [q2] at S22
  refine rcall ((zAQ (O9.sl.up (w':=w12)) S22 (by omega)).tt rfl) ?_
  rintro _ w13 ⟨rfl,e13⟩
  exact⟨rfl,stp⟩
theorem zLT{P:Nat→Prop}:∀b,Value.blk (.slice none 0 0)=some b→P b:=fun b hb=>nomatch hb
set_option maxHeartbeats 4000000 in
theorem zEA{x:RCfg}{im:List UInt8}(him:im.length≤4611686018427387904){c:Nat}{l:List REv}(h:SlF w (.slice a n c) l)(hm:EvsM w l)(hf:∀y∈l,y.frame.length≤4611686018427387904):
  Sp PP F.pr #[agg x,txt im,.slice a n c] w fun v w'=>v=.bool true∧Stp w w':=by
 have q_:=h.len
 obtain rfl:=q_
 refine en TBok rfl ?_
 refine rbx fun b w1 n1 B1=>?_
 have B1:Bk w1 b (enc x) E.qm:=B1
 refine rldG (B:=B1) rfl rfl ?_
 refine rcall (zDJ h.up) ?_
 rintro _ w2 ⟨rfl|⟨rfl,hs,hl,hi⟩,e2⟩
 ·exact⟨rfl,stp⟩
 refine ite (fun h1=>?_) (fun h1=>?_)
 ·exact⟨rfl,stp⟩
 have hl100:l.length≤100:=by omega
 refine rldG (B:=B1) rfl rfl ?_
 refine rcall (zAH him (h.up (w':=w2)) hm.up hf) ?_
 rintro _ w3 ⟨⟨vt,vl,rfl,O3,P3⟩,e3⟩
 refine rldG (B:=B1) rfl rfl ?_
 refine rcall (zJN him) ?_
 have hE:errA x im l.length=errN x im:=if_neg (by omega)
 rintro _ w4 ⟨⟨he,rfl⟩|⟨g,bs,hc,hi,he,rfl,S0⟩,e4⟩
 ·refine rpnil ?_
  have ht:toldA x im (evD l)=[]:=by unfold toldA;rw [if_neg (by rw [zAt,hE];exact he)]
  have hv:liveA x im (evD l)=[]:=by unfold liveA;rw [if_neg (by rw [zAt,hE];exact he)]
  refine rcall zAU ?_
  rintro _ w5 ⟨rfl,e5⟩
  refine ite (fun _=>?_) (fun h=>absurd hE h)
  have O3:=O3.up (w':=w5)
  have P3:=P3.up (w':=w5)
  rw [ht] at O3
  rw [hv] at P3
  have q_:=O3.shape
  obtain⟨a6,c6,rfl⟩:=q_
  have q_:=P3.shape
  obtain⟨a7,c7,rfl⟩:=q_
  refine ite (fun _=>?_) (fun h=>absurd (by simp) h)
  refine ite (fun _=>?_) (fun h=>absurd (by simp) h)
  exact⟨rfl,stp⟩
 have hA:errA x im l.length=0:=by rw [hE];exact he
 have hT:toldA x im (evD l)=(audR g (cfOf x) (evD l)).told:=by unfold toldA;rw [if_pos (by rw [zAt];exact hA),zAW hi]
 have hL:liveA x im (evD l)=(List.range (cfOf x).workers).map fun k=>(liveW g (cfOf x).workers (audR g (cfOf x) (evD l)).s.held k:Int):=by unfold liveA;rw [if_pos (by rw [zAt];exact hA),zAW hi]
 have z3:=e3.e.size
 have z4:=e4.e.size
 refine rpnil ?_
 refine ite (fun h=>absurd rfl h) (fun _=>?_)
 refine cnt1 TBok 14 [] 12 13 l.length (fun k v u=>∃R,SrvP R w3.heap.size u bs g (cfOf x) (audR g (cfOf x) ((evD l).take k)).s∧Own w3.heap.size E.qc u v ((audR g (cfOf x) ((evD l).take k)).told.map bsOf)∧(∀b,Value.blk v=some b→b<u.heap.size∧¬R b)∧Fr (fun i=>w3.heap.size≤i) w4 u) rfl rfl
  ⟨_,S0,Own.nil _ _ _,zLT,Fr.refl _ _⟩ ?_
 rintro k v G u hk ⟨R,S,O,hb,fu⟩
 have su:Stw w3 w4 u:=⟨fu⟩
 have zu:=fu.size
 have q_:=S.ok
 obtain⟨_,hcf,hso⟩:=q_
 have hreg:=(SrvX.reg S).1
 have hok:=zEX (g:=g) hcf ((evD l).take k)
 have htk:((evD l).take k).length≤100:=by rw [List.length_take,zBj];omega
 have hlm:((audR g (cfOf x) ((evD l).take k)).told.map bsOf).length=(audR g (cfOf x) ((evD l).take k)).told.length:=List.length_map ..
 refine ite (fun hlt=>?_) (fun hge=>?_)
 ·have hk1:k<l.length:=by omega
  have hiy:l[k]? = some l[k]:=by simp
  have q_:∃y,y=l[k]:=⟨_,rfl⟩
  obtain⟨y,hy⟩:=q_
  rw [←hy] at hiy
  have hym:y∈l:=by rw [hy];exact List.getElem_mem hk1
  have q_:=hm y hym
  obtain⟨ps,hps⟩:=q_
  have hyf:=hf y hym
  have hnx:audR g (cfOf x) ((evD l).take (k+1))=audS g (cfOf x) (audR g (cfOf x) ((evD l).take k)) (y.tick,y.frame):=by
   rw [zHm (by rw [zBj];exact hk1),zJ1 hk1,←hy]
  obtain⟨yt,yf,pa,pn,pc⟩:=y
  have hps:SlF w (.slice pa pn pc) ps:=hps
  have hyf:yf.length≤4611686018427387904:=hyf
  have q_:∃r,r=audR g (cfOf x) ((evD l).take k):=⟨_,rfl⟩
  obtain⟨r,hr⟩:=q_
  rw [←hr] at S O hok hlm hnx hso
  refine rix (i:=k) (h.up (w':=u)) hiy fun b6 o6 A6=>?_
  refine rload1 (A6.cell 0 rfl) ?_
  cases yt with
  |true =>
   refine rix (i:=k) (h.up (w':=u)) hiy fun b7 o7 A7=>?_
   refine rload1 (A7.cell 2 rfl) ?_
   have hp1:∀v,Fr R u v→SlF v (.slice pa pn pc) ps:=fun v fv=>by
    have t:Stw w3 u v:=S.stw fv (Nat.le_refl _)
    exact SlF.up (w:=w) hps
   refine rcall (zDm S (by omega) hp1) ?_
   rintro v7 u7 ⟨R7,O7,hoff,S7,hR7,f7⟩
   have hR7':∀i,R7 i→R i∨u.heap.size≤i∧i<u7.heap.size:=hR7
   have z7:=f7.size
   have O':=O.fr f7 fun b _ h hr=>(hb b h).2 hr
   have hl7:=zES hcf hso
   have hlm7:((tickS g (cfOf x) r.s).2.map bsOf).length=(tickS g (cfOf x) r.s).2.length:=List.length_map ..
   have q_:=O7.shape
   obtain⟨a7,c7,rfl⟩:=q_
   refine rappF ⟨rfl,rfl⟩ O' O7.sl (by omega) (by constructor <;> omega) fun v8 u8 O8 f8 hv8=>?_
   have z8:=f8.size
   have hv8:Value.blk v8=Value.blk v∨Value.blk v8=some u7.heap.size∧r.told.map bsOf++(tickS g (cfOf x) r.s).2.map bsOf≠[]:=hv8.imp id fun h=>⟨h.1,fun h0=>h.2 (List.append_eq_nil_iff.1 h0).2⟩
   have N8:=zC6 (X:=R7) (fun b hbb=>by
    have h3:=hb b hbb
    refine⟨by omega,fun h4=>?_⟩
    have q_:=hR7' _ h4
    rcases q_ with h4|h4
    ·exact h3.2 h4
    ·omega) hv8 O8 (fun i h4=>((SrvX.reg S7).1 i h4).2) z8
   have S8:=S7.away f8 fun b h4 h5=>by
    have h3:=hb b (zAj h4).2
    have q_:=hR7' _ h5
    rcases q_ with h5|h5
    ·exact h3.2 h5
    ·omega
   have O9:Own w3.heap.size E.qc u8 v8 ((audR g (cfOf x) ((evD l).take (k+1))).told.map bsOf):=by
    rw [hnx,zA7];dsimp only;rw [List.map_append];exact O8
   have S9:SrvP R7 w3.heap.size u8 bs g (cfOf x) (audR g (cfOf x) ((evD l).take (k+1))).s:=by rw [hnx,zA7];exact S8
   exact rar (by omega) ⟨rfl,hk1,R7,S9,O9,N8,(fu.trans (S.frB f7)).trans (f8.mono fun i _ hi=>hi.1)⟩
  |false =>
   refine rix (i:=k) (h.up (w':=u)) hiy fun b7 o7 A7=>?_
   refine rload1 (A7.cell 1 rfl) ?_
   have D:=zDk (f:=yf) S (by omega) hyf
   have q_:∃o,(comeS g (cfOf x) r.s yf).2=o:=⟨_,rfl⟩
   obtain⟨o,ho⟩:=q_
   rw [ho] at D
   cases o with
   |none =>
    refine rcall D ?_
    rintro _ u7 ⟨rfl,S7,f7⟩
    have z7:=f7.size
    have O':=O.fr f7 fun b _ h hr=>(hb b h).2 hr
    have O9:Own w3.heap.size E.qc u7 v ((audR g (cfOf x) ((evD l).take (k+1))).told.map bsOf):=by
     rw [hnx,zBx ho];exact O'
    have S9:SrvP (gR R u u7) w3.heap.size u7 bs g (cfOf x) (audR g (cfOf x) ((evD l).take (k+1))).s:=by rw [hnx,zBx ho];exact S7
    have N9:∀b,Value.blk v=some b→b<u7.heap.size∧¬gR R u u7 b:=fun b hbb=>by
     have h3:=hb b hbb
     refine⟨by omega,fun h4=>?_⟩
     rcases h4 with h4|h4
     ·exact h3.2 h4
     ·omega
    exact rar (by omega) ⟨rfl,hk1,_,S9,O9,N9,fu.trans (S.frB f7)⟩
   |some t =>
    refine rcall D ?_
    rintro _ u7 ⟨rfl,S7,f7⟩
    have z7:=f7.size
    have O':=O.fr f7 fun b _ h hr=>(hb b h).2 hr
    refine rbs1 (bsOf t) rfl rfl (by decide) fun b8 u8 e8 _ X8=>?_
    have z8:=e8.e.size
    refine rappF ⟨rfl,rfl⟩ (O'.up (w':=u8)) X8 (by omega) (by simp only [List.length_cons,List.length_nil];omega) fun v9 u9 O9 f9 hv9=>?_
    have z9:=f9.size
    have hv9:Value.blk v9=Value.blk v∨Value.blk v9=some u8.heap.size∧r.told.map bsOf++[bsOf t]≠[]:=hv9.imp id fun h=>⟨h.1,by simp⟩
    have hg8:∀b,Value.blk v=some b→b<u8.heap.size∧¬gR R u u7 b:=fun b hbb=>by
     have h3:=hb b hbb
     refine⟨by omega,fun h4=>?_⟩
     rcases h4 with h4|h4
     ·exact h3.2 h4
     ·omega
    have N9:=zC6 (X:=gR R u u7) hg8 hv9 O9 (fun i h4=>by
     have:=((SrvX.reg S7).1 i h4).2;omega) z9
    have S10:=(S7.up (w':=u8)).away f9 fun b h4 h5=>(hg8 b (zAj h4).2).2 h5
    have O10:Own w3.heap.size E.qc u9 v9 ((audR g (cfOf x) ((evD l).take (k+1))).told.map bsOf):=by
     rw [hnx,zBW ho];dsimp only;rw [List.map_append];exact O9
    have S11:SrvP (gR R u u7) w3.heap.size u9 bs g (cfOf x) (audR g (cfOf x) ((evD l).take (k+1))).s:=by rw [hnx,zBW ho];exact S10
    exact rar (by omega) ⟨rfl,hk1,_,S11,O10,N9,((fu.trans (S.frB f7)).trans (Fr.fr e8.e)).trans (f9.mono fun i _ hi=>hi.1)⟩
 ·have hkl:k=l.length:=by omega
  have hfin:(evD l).take k=evD l:=by rw [hkl,←zBj l,List.take_length]
  rw [hfin] at S O hok hlm
  have hle:=zBj l
  refine rcall zAU ?_
  rintro _ w5 ⟨rfl,e5⟩
  refine ite (fun _=>?_) (fun h=>absurd hA h)
  have O3:=O3.up (w':=w5)
  have P3:=P3.up (w':=w5)
  have O5:=O.up (w':=w5)
  rw [hT] at O3
  rw [hL] at P3
  have q_:=O3.shape
  obtain⟨a6,c6,rfl⟩:=q_
  have q_:=P3.shape
  obtain⟨a7,c7,rfl⟩:=q_
  have q_:=O5.shape
  obtain⟨a8,c8,rfl⟩:=q_
  have hw:=hcf.workers
  refine rcall ((zBI O3.sl O5.sl (by omega)).tt rfl) ?_
  rintro _ w6 ⟨rfl,e6⟩
  refine rcall (zDl (S.up (w':=w6))) ?_
  rintro v7 w7 ⟨O7,e7⟩
  have q_:=O7.shape
  obtain⟨a9,c9,rfl⟩:=q_
  refine rcall ((zAQ (P3.sl.up (w':=w7)) O7.sl (by rw [List.length_map,List.length_range];omega)).tt rfl) ?_
  rintro _ w8 ⟨rfl,e8⟩
  exact⟨rfl,stp⟩
end Go.W
