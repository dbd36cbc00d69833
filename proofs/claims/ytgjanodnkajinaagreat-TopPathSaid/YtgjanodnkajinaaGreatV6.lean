/-
  Proved here: a part of the walks and plain laws of this claim (merged by a program of mine).
  Conditions: those that each fact names.
-/
import Derived.Test.YtgjanodnkajinaaGreatV5
set_option linter.unusedVariables false
set_option linter.unusedSimpArgs false
namespace Go.W
open Go Go.Proofs
open Enc (enc)
set_option maxRecDepth 10000
variable {B k n n2:Nat} {D:Nat → Prop} {P:Program} {a a2:Option Addr} {g:GrD} {q:QyD} {w w':World}
theorem zIg{x:RRow}{r:List EdN}{br v:Nat}{w0:World}[Le w0 w](hg:GrIs g)(Br:Bk w0 br (enc x) E.qo)(R:RwF w0 x g r)(hv:v<g.n):
  Sp PP F.qo #[.int .i64 (v:Int),.pointer (some ⟨br,0,none⟩)] w fun rv w'=>(∃a c,rv=.slice a (nbL g 0 v).length c∧SlF w' (.slice a (nbL g 0 v).length c) (intsN (nbL g 0 v))∧∀b,nbL g 0 v≠[]→Value.blk (.slice a (nbL g 0 v).length c)=some b→b<w0.heap.size)∧Stp w w':=by
 have l1:=R.off.len;have l2:=R.to.len
 have q1:=zAO g.n g.es;have q2:=zA5 g.es
 have h2:=hg.rowI.n2
 refine en TBok rfl ?_
 refine drawR TBok mixed (fun _=>False) [0,1,2,3,4,5,6,7,8,9,10,11,12,13,14] (by kernel_rfl) fun w5 e5 _=>?_
 have hm:=zBP g.es v
 have hle:=cLt_le g.es (v+1)
 refine tld (B:=Br) rfl not_false (tld (B:=Br) rfl not_false ?_)
 refine tix (R.off.up (w':=w5)) (zAt (v:=v) (by omega)) fun b6 o6 A6 _=>tload1 (A6.cell0 rfl) not_false ?_
 refine tld (B:=Br) rfl not_false ?_
 refine rarE (y:=((v+1:Nat):Int)) (by omega) (by omega) ?_
 refine tix (R.off.up (w':=w5)) (zAt (v:=v+1) (by omega)) fun b7 o7 A7 _=>tload1 (A7.cell0 rfl) not_false ?_
 have SR:=R.to.up (w':=w5)
 refine tslD (cLt g.es v) (cLt g.es (v+1)) SR hm (by omega) ?_
 have seg:=SR.part (cLt g.es v) (cLt g.es (v+1)) hm (by omega)
 rw [zDF hg.rowI.ris v] at seg
 have e7:toL (atV g.es v)=intsN (nbL g 0 v):=by rw [zJq];unfold toL intsN rowN;rw [List.map_map];rfl
 rw [e7] at seg
 have e8:cLt g.es (v+1) - cLt g.es v=(nbL g 0 v).length:=by
  have:=seg.len
  rw [this];simp [intsN]
 rw [e8] at seg
 refine⟨⟨_,_,congrArg (fun n=>Value.slice _ n _) e8,seg,fun b hne hb=>?_⟩,stp⟩
 have hlt:=R.to.lt (by
  intro h0
  have h1:(toL g.es).length=0:=by rw [h0];rfl
  have h3:0<(nbL g 0 v).length:=List.length_pos_iff.2 hne
  omega)
 obtain⟨b',h3,h4⟩:=hlt
 have hbb:b=b':=by
  cases hto:x.to.a with
  |none=>rw [hto] at h3;cases h3
  |some ad =>
   rw [hto] at h3 hb
   have h5:ad.block=b':=Option.some.inj h3
   have h6:ad.block=b:=by
    by_cases hc:x.to.c=cLt g.es v
    ·rw [if_pos hc] at hb;exact Option.some.inj hb
    ·rw [if_neg hc] at hb
     have h8:∀k,(ad.add k).block=ad.block:=fun k=>by unfold Addr.add;split <;> rfl
     have h9:(ad.add _).block=b:=Option.some.inj hb
     rw [←h9,h8]
   omega
 omega
theorem zIh{x:RRow}{r:List EdN}{br v:Nat}{w0:World}[Le w0 w](hg:GrIs g)(Br:Bk w0 br (enc x) E.qo)(R:RwF w0 x g r)(hv:v<g.n):
  Sp PP F.qg #[.int .i64 (v:Int),.pointer (some ⟨br,0,none⟩)] w fun rv w'=>(∃a c,rv=.slice a (nbL g 1 v).length c∧SlF w' (.slice a (nbL g 1 v).length c) (intsN (nbL g 1 v))∧∀b,nbL g 1 v≠[]→Value.blk (.slice a (nbL g 1 v).length c)=some b→b<w0.heap.size)∧Stp w w':=by
 have l1:=R.rof.len;have l2:=R.rev.len
 have q1:=zAO g.n r;have q2:=zA5 r
 have hJ:=hg.rowR R.rev'
 have h2:=hJ.n2
 refine en TBok rfl ?_
 refine drawR TBok mixed (fun _=>False) [0,1,2,3,4,5,6,7,8,9,10,11,12,13,14] (by kernel_rfl) fun w5 e5 _=>?_
 have hm:=zBP r v
 have hle:=cLt_le r (v+1)
 refine tld (B:=Br) rfl not_false (tld (B:=Br) rfl not_false ?_)
 refine tix (R.rof.up (w':=w5)) (zAt (v:=v) (by omega)) fun b6 o6 A6 _=>tload1 (A6.cell0 rfl) not_false ?_
 refine tld (B:=Br) rfl not_false ?_
 refine rarE (y:=((v+1:Nat):Int)) (by omega) (by omega) ?_
 refine tix (R.rof.up (w':=w5)) (zAt (v:=v+1) (by omega)) fun b7 o7 A7 _=>tload1 (A7.cell0 rfl) not_false ?_
 have SR:=R.rev.up (w':=w5)
 refine tslD (cLt r v) (cLt r (v+1)) SR hm (by omega) ?_
 have seg:=SR.part (cLt r v) (cLt r (v+1)) hm (by omega)
 rw [zDF hJ.ris v] at seg
 have e7:toL (atV r v)=intsN (nbL g 1 v):=by rw [zKL hg.er R.rev'];unfold toL intsN rowN;rw [List.map_map];rfl
 rw [e7] at seg
 have e8:cLt r (v+1) - cLt r v=(nbL g 1 v).length:=by
  have:=seg.len
  rw [this];simp [intsN]
 rw [e8] at seg
 refine⟨⟨_,_,congrArg (fun n=>Value.slice _ n _) e8,seg,fun b hne hb=>?_⟩,stp⟩
 have hlt:=R.rev.lt (by
  intro h0
  have h1:(toL r).length=0:=by rw [h0];rfl
  have h3:0<(nbL g 1 v).length:=List.length_pos_iff.2 hne
  omega)
 obtain⟨b',h3,h4⟩:=hlt
 have hbb:b=b':=by
  cases hto:x.rev.a with
  |none=>rw [hto] at h3;cases h3
  |some ad =>
   rw [hto] at h3 hb
   have h5:ad.block=b':=Option.some.inj h3
   have h6:ad.block=b:=by
    by_cases hc:x.rev.c=cLt r v
    ·rw [if_pos hc] at hb;exact Option.some.inj hb
    ·rw [if_neg hc] at hb
     have h8:∀k,(ad.add k).block=ad.block:=fun k=>by unfold Addr.add;split <;> rfl
     have h9:(ad.add _).block=b:=Option.some.inj hb
     rw [←h9,h8]
   omega
 omega
def SidM (B:Nat) (w:World) (bs:Nat) (fn:FuncId) (br:Nat) (la:Option Addr) (lc:Nat) (lev:List Int) (fr:List Nat):Prop:=
 ∃fa fc,Bk w bs [.func (.func fn) #[] #[.pointer (some ⟨br,0,none⟩)],.slice la lev.length lc,.slice fa fr.length fc] E.q4∧Own B E.qa w (.slice la lev.length lc) lev∧SlF w (.slice fa fr.length fc) (intsN fr) ∧
  (∀b,Value.blk (.slice fa fr.length fc)=some b→Value.blk (.slice la lev.length lc)≠some b∧B≤b)∧Value.blk (.slice la lev.length lc)≠some bs∧B≤bs
theorem SidM.up[L:Le w w']{bs:Nat}{fn:FuncId}{br:Nat}{la:Option Addr}{lc:Nat}{lev:List Int}{fr:List Nat}(h:SidM B w bs fn br la lc lev fr):SidM B w' bs fn br la lc lev fr:=by
 obtain⟨fa,fc,h1,h2,h3,h4⟩:=h
 exact⟨fa,fc,h1.mv (w:=w'),h2.up,h3.up,h4⟩
set_option maxHeartbeats 1000000 in
theorem zEq{p:Nat}{fn:FuncId}{br:Nat}(hn:n≤200)(hp:p<n):
  Sp PP F.ci #[.int .i64 (n:Int),.int .i64 (p:Int),.func (.func fn) #[] #[.pointer (some ⟨br,0,none⟩)]] w fun v w'=>(∃bs la lc,v=.pointer (some ⟨bs,0,none⟩)∧SidM w.heap.size w' bs fn br la lc ((List.replicate n (-1:Int)).set p 0) [p])∧Stp w w':=by
 refine en TBok rfl ?_
 refine rmk (0:Int) rfl rfl (by omega) fun gb w1 O1 s1 hgb=>?_
 have lgb:gb<w1.heap.size:=by
  have q_:=O1.lt (by intro h;have:=congrArg List.length h;rw [List.length_replicate] at this;simp at this;omega)
  obtain⟨b',h1,_,h2⟩:=q_
  cases h1;exact h2
 refine rbs (vs:=[.int .i64 (p:Int)]) [(p:Int)] rfl rfl rfl (by decide) fun b2 w2 n2 S2=>?_
 have s2:Stp w1 w2:=⟨n2.ext⟩
 have hb2:=n2.lo
 have z2:=s2.e.size
 refine rbuild (cs:=[.func (.func fn) #[] #[.pointer (some ⟨br,0,none⟩)],.slice (some ⟨gb,0,none⟩) n n,.slice (some ⟨b2,0,none⟩) 1 1]) rfl ?_
 refine rbx fun bs w3 n3 K3=>?_
 have K3:Bk w3 bs [.func (.func fn) #[] #[.pointer (some ⟨br,0,none⟩)],.slice (some ⟨gb,0,none⟩) n n,.slice (some ⟨b2,0,none⟩) 1 1] E.q4:=K3
 have hbs:=n3.lo (u:=w2)
 have hbw:=n3.lo (u:=w)
 refine rld (B:=K3) rfl ?_
 refine cnt TBok 21 [8] 21 n (fun k u=>∃L:List Int,L.length=n∧(∀v,v<k→L[v]? = some (-1))∧Own w.heap.size E.qa u (.slice (some ⟨gb,0,none⟩) n n) L∧Bk u bs [.func (.func fn) #[] #[.pointer (some ⟨br,0,none⟩)],.slice (some ⟨gb,0,none⟩) n n,.slice (some ⟨b2,0,none⟩) 1 1] E.q4∧SlF u (.slice (some ⟨b2,0,none⟩) 1 1) [(p:Int)]∧Stp w u) rfl rfl
  ⟨List.replicate n 0,by simp,fun v hv=>absurd hv (by omega),O1.up (w':=w3),K3,S2.up (w':=w3),stp⟩ ?_
 rintro k G u hk ⟨L,hL,hm,O,K,S,su⟩
 refine ite (fun hlt=>?_) (fun hge=>?_)
 ·have hk1:k<n:=by omega
  refine rld (B:=K) rfl ?_
  refine rixO rfl O (x:=L[k]'(by omega)) (by simp) fun g' hg' hB A=>?_
  have hgg:gb=g':=Option.some.inj hg'
  subst hgg
  refine rstO rfl (-1:Int) O hg' (by omega) rfl fun w4 O4 f4 s4 z4=>?_
  have hne:∀b,ownD w.heap.size (.slice (some ⟨gb,0,none⟩) n n) b→b=gb:=fun b h=>(Option.some.inj h.2.1).symm
  have K4:=K.fr f4 fun h=>by have:=hne _ h;omega
  have S4:=S.fr f4 fun b hb h=>by
   have h1:=hne _ h
   have h2:b2=b:=Option.some.inj hb
   omega
  have t4:Stp w w4:=⟨Fr.st su.e f4 fun i hi=>hi.1⟩
  exact rar (by omega) ⟨rfl,hk1,L.set k (-1),by simp [hL],fun v hv=>by
   rw [List.getElem?_set]
   by_cases e:k=v
   ·subst e;simp;omega
   ·rw [if_neg e];exact hm v (by omega),O4,K4,S4,t4⟩
 ·have hkn:k=n:=by omega
  have hLr:L=List.replicate n (-1:Int):=by
   apply List.ext_getElem?
   intro v
   have q_:=Nat.lt_or_ge v n
   rcases q_ with h|h
   ·rw [hm v (by omega),List.getElem?_replicate,if_pos h]
   ·rw [List.getElem?_eq_none (by omega),List.getElem?_eq_none (by simp;omega)]
  refine rld (B:=K) rfl ?_
  refine rixO rfl O (x:=L[p]'(by omega)) (by simp) fun g' hg' hB A=>?_
  have hgg:gb=g':=Option.some.inj hg'
  subst hgg
  refine rstO rfl (0:Int) O hg' (by omega) rfl fun w4 O4 f4 s4 z4=>?_
  have hne:∀b,ownD w.heap.size (.slice (some ⟨gb,0,none⟩) n n) b→b=gb:=fun b h=>(Option.some.inj h.2.1).symm
  have K4:=K.fr f4 fun h=>by have:=hne _ h;omega
  have S4:=S.fr f4 fun b hb h=>by
   have h1:=hne _ h
   have h2:b2=b:=Option.some.inj hb
   omega
  have t4:Stp w w4:=⟨Fr.st su.e f4 fun i hi=>hi.1⟩
  have hln:((List.replicate n (-1:Int)).set p 0).length=n:=by simp
  refine⟨⟨bs,some ⟨gb,0,none⟩,n,rfl,some ⟨b2,0,none⟩,1,?_,?_,S4,fun b hb=>⟨fun h=>?_,?_⟩,fun h=>?_,hbw⟩,t4⟩
  ·rw [hln];exact K4
  ·rw [hln,←hLr];exact O4
  ·have h1:b2=b:=Option.some.inj hb
   have h2:gb=b:=Option.some.inj h
   omega
  ·have h1:b2=b:=Option.some.inj hb
   have:=Le.size (a:=w) (b:=w1)
   omega
  ·have h2:gb=bs:=Option.some.inj h
   omega
theorem rlookV{kt:TypeId}{κ:Type}[DecidableEq κ][M:MKey P kt κ]{k:Value→World→Prop}{pn:List PanicEntry→World→Prop}{t e:TypeId}{z:Value}{sz by':Nat}[ht:MapT P t kt e][he:Elem P e z sz by']{b:Nat}{m:List (κ×Value)}{xv:Value}(h:MapL P kt w b m)(x:κ)(hx:xv=M.val x){y:Value}(hv:(getM m x).getD z=y)(hk:k y w):SemV P (Instr.lookup t (.map (some b)) xv false) k pn w:=
 rlook h x hx (by rw [hv];exact hk)
theorem zMD(a b:List Nat):intsN (a++b)=intsN a++intsN b:=List.map_append
theorem zF4(a:List Nat):(intsN a).length=a.length:=List.length_map ..
theorem zD3{l:List Nat}(h:k<l.length):(intsN l)[k]? = some ((l[k]:Nat):Int):=by simp [intsN,h]
theorem SlF.frM{kt:TypeId}{κ:Type}[DecidableEq κ][M:MKey P kt κ]{α:Type}[Enc α]{v:Value}{l:List α}{bm:Nat}{m:List (κ×Value)}(h:SlF w v l)(hM:MapL P kt w bm m)(f:Fr (fun i=>i=bm) w w'):SlF w' v l:=by
 by_cases h0:l=[]
 ·subst h0
  have q_:=h.shape
  obtain⟨a,c,rfl⟩:=q_
  exact SlF.nil' w' a c
 ·refine h.fr f fun b hb e=>?_
  subst e
  obtain⟨a,c,rfl,_,h1⟩:=h
  rcases h1 with h1|⟨b',o,rfl,hat⟩
  ·exact h0 h1
  ·have hbb:b'=b:=Option.some.inj hb
   subst hbb
   obtain⟨⟨es,c',hm,_⟩,_⟩:=hM
   cases l with
   |nil=>exact h0 rfl
   |cons x r =>
    have:=Enc.len x
    have hp:=Enc.pos (α:=α)
    have h2:(flat (x::r))[0]? = some ((enc x)[0]'(by omega)):=by
     rw [flat_cons,List.getElem?_append_left (by omega)];simp
    have h3:=hat 0 _ h2
    unfold World.cell? at h3
    simp [hm] at h3
theorem AhI.len{lev:List Int}{P l:List Nat}{m:List (Int×Value)}(A:AhI lev P l m):l.length≤lev.length:=zF9 A.nd fun x hx=>by
 have q_:=((A.mem x).1 hx).2
 obtain⟨y,hy,_⟩:=q_
 exact(List.getElem?_eq_some_iff.1 hy).1
set_option maxHeartbeats 2000000 in
theorem zIf{bs:Nat}{fn:FuncId}{br:Nat}{la:Option Addr}{lc:Nat}{lev:List Int}{fr:List Nat}{nb:Nat→List Nat}(Q:SidM B w bs fn br la lc lev fr)(hll:lev.length≤200)(hfl:fr.length≤1000)(hnb:∀v∈fr,(nb v).length≤1000000∧∀x∈nb v,x<lev.length)
  (hN:∀v∈fr,∀u,Stp w u→Sp PP fn #[.int .i64 (v:Int),.pointer (some ⟨br,0,none⟩)] u fun rv w'=>(∃a c,rv=.slice a (nb v).length c∧SlF w' (.slice a (nb v).length c) (intsN (nb v))∧∀b,nb v≠[]→Value.blk (.slice a (nb v).length c)=some b→b<w.heap.size)∧Stp u w'):
  Sp PP F.q9 #[.pointer (some ⟨bs,0,none⟩)] w fun v w'=>(∃l m,AhI lev (fr.flatMap nb) l m∧Own w.heap.size E.qa w' v (intsN l))∧Stp w w':=by
 obtain⟨fa,fc,K,OL,SF,hap,hab,hB⟩:=Q
 refine en TBok rfl ?_
 refine rmkNB (kt:=E.qa) (κ:=Int) rfl fun bm w1 n1 M1=>?_
 have hbm:=n1.lo (u:=w)
 refine rld (B:=K) rfl ?_
 refine cnt1 TBok 15 [5,6,7,8] 3 15 fr.length (fun k v u=>∃l m,AhI lev ((fr.take k).flatMap nb) l m∧Own w.heap.size E.qa u v (intsN l)∧MapB PP E.qa u bm m∧Stp w u) rfl rfl ⟨[],[],AhI.nil,Own.nil _ _ _,M1,stp⟩ ?_
 rintro k v G u hk ⟨l,m,A,O,M,su⟩
 refine ite (fun hlt=>?_) (fun hge=>?_)
 ·have hk1:k<fr.length:=by omega
  have hfm:fr[k]∈fr:=List.getElem_mem hk1
  refine rix (SF.up (w':=u)) (zD3 hk1) fun b2 o2 A2=>rload1 (A2.cell0 rfl) ?_
  refine rld (B:=K) rfl ?_
  refine rcall (hN fr[k] hfm u su) ?_
  rintro _ w3 ⟨⟨na,nc,rfl,SN,hna⟩,e3⟩
  have hnb1:=hnb fr[k] hfm
  have hP:(fr.take (k+1)).flatMap nb=(fr.take k).flatMap nb++nb fr[k]:=by rw [zAa hk1,List.flatMap_append];simp
  refine cnt1 TBok 26 [7,8] 3 26 (nb fr[k]).length (fun j v u=>∃l m,AhI lev ((fr.take k).flatMap nb++(nb fr[k]).take j) l m∧Own w.heap.size E.qa u v (intsN l)∧MapB PP E.qa u bm m∧Stp w u∧SlF u (.slice na (nb fr[k]).length nc) (intsN (nb fr[k]))) rfl rfl ⟨l,m,by simpa using A,O.up (w':=w3),M.up (w':=w3),stp,SN⟩ ?_
  clear A O M
  rintro j v4 G4 u4 hj ⟨l,m,A,O,M,su4,SN4⟩
  refine ite (fun hlt2=>?_) (fun hge2=>?_)
  ·have hj1:j<(nb fr[k]).length:=by omega
   have q_:∃z,z=(nb fr[k])[j]:=⟨_,rfl⟩
   obtain⟨z,hz⟩:=q_
   have hzi:(intsN (nb fr[k]))[j]? = some (z:Int):=by rw [hz];exact zD3 hj1
   have hzl:z<lev.length:=by rw [hz];exact hnb1.2 _ (List.getElem_mem hj1)
   have hPz:(fr.take k).flatMap nb++(nb fr[k]).take (j+1)=((fr.take k).flatMap nb++(nb fr[k]).take j)++[z]:=by rw [zAa hj1,←List.append_assoc,hz]
   have hlen:=A.len
   have hil:(intsN l).length=l.length:=zF4 l
   refine rix SN4 hzi fun b5 o5 A5=>rload1 (A5.cell0 rfl) ?_
   refine rld (B:=K) rfl ?_
   refine rix (OL.sl.up (w':=u4)) (x:=lev[z]) (by simp) fun b6 o6 A6=>rload1 (A6.cell0 rfl) ?_
   refine ite (fun hneg=>?_) (fun hneg=>?_)
   ·have hx:∃x,lev[z]? = some x∧x<0:=⟨lev[z],by simp,hneg⟩
    have q_:=Classical.em (z∈l)
    rcases q_ with hin|hin
    ·refine rlookV M.l (z:Int) rfl (y:=.bool true) (by rw [A.map,if_pos hin];rfl) ?_
     have A':=A.skip (w:=z) (.inl hin)
     rw [←hPz] at A'
     exact rar (by omega) ⟨rfl,hj1,l,m,A',O,M,su4,SN4⟩
    ·refine rlookV M.l (z:Int) rfl (y:=.bool false) (by rw [A.map,if_neg hin];rfl) ?_
     have A':=A.add hin hx
     rw [←hPz] at A'
     refine rupdB M (z:Int) rfl fun w7 M7 f7 z7=>?_
     have t7:Stp w w7:=⟨Fr.st su4.e f7 fun i hi=>by subst hi;exact hbm⟩
     have SN7:=SN4.frM M.l f7
     have O7:=O.kept (M.l.wrote (es:=[mapK]) f7 hbm (by simp)) (by decide)
     refine rbs1 (z:Int) rfl rfl (by decide) fun b8 w8 e8 _ S8=>?_
     refine rapp1 (u:=w) ⟨rfl,rfl⟩ (O7.up (w':=w8)) S8 (by omega) fun v9 w9 O9 f9 s9=>?_
     have f9:Fr (ownD w.heap.size v4) w8 w9:=f9
     have M9:=(M7.up (w':=w8)).fr f9 ((M7.up (w':=w8)).notOwn (O7.up (w':=w8)))
     have SN9:=(SN7.up (w':=w8)).fr f9 fun b hb h=>by
      have:=hna b (fun h0=>by rw [h0] at hj1;cases hj1) hb
      have:=h.1
      omega
     have O9':Own w.heap.size E.qa w9 v9 (intsN (l++[z])):=by rw [zMD];exact O9
     have t9:Stp w w9:=stp
     exact rar (by omega) ⟨rfl,hj1,l++[z],_,A',O9',M9,t9,SN9⟩
   ·have A':=A.skip (w:=z) (.inr fun⟨x,h1,h2⟩=>by
     rw [List.getElem?_eq_getElem hzl] at h1
     have:=Option.some.inj h1
     omega)
    rw [←hPz] at A'
    exact rar (by omega) ⟨rfl,hj1,l,m,A',O,M,su4,SN4⟩
  ·have hjl:j=(nb fr[k]).length:=by omega
   rw [hjl,List.take_length,←hP] at A
   exact rar (by omega) ⟨rfl,hk1,l,m,A,O,M,su4⟩
 ·have hkl:k=fr.length:=by omega
  rw [hkl,List.take_length] at A
  exact⟨⟨l,m,A,O⟩,su⟩
set_option maxHeartbeats 2000000 in
theorem zIO{bs:Nat}{fn:FuncId}{br:Nat}{la:Option Addr}{lc:Nat}{lev:List Int}{fr l:List Nat}{f0:Nat}{fr':List Nat}{x:Int}{c2:Nat}(Q:SidM B w bs fn br la lc lev fr)(hll:lev.length≤200)(hfr:fr=f0::fr')(hx:lev[f0]? = some x)(hxr:-1≤x∧x≤1000)
  (hl:∀v∈l,v<lev.length)(h0:f0∉l)(hl1:l.length≤1000)(S:SlF w (.slice a2 n2 c2) (intsN l))(hs:∀b,Value.blk (.slice a2 n2 c2)=some b→Value.blk (.slice la lev.length lc)≠some b∧b≠bs∧B≤b):
  Sp PP F.p1 #[.pointer (some ⟨bs,0,none⟩),.slice a2 n2 c2] w fun _ w'=>SidM B w' bs fn br la lc (setAll (x+1) l lev) l∧Fr (fun i=>i=bs∨Value.blk (.slice la lev.length lc)=some i) w w':=by
 have hn2:n2=l.length:=by rw [S.len,zF4]
 subst hn2
 obtain⟨fa,fc,K,OL,SF,hap,hab,hB⟩:=Q
 have hfl:f0<lev.length:=(List.getElem?_eq_some_iff.1 hx).1
 refine en TBok rfl ?_
 refine cnt TBok 8 [4,5] 8 l.length (fun k u=>Own B E.qa u (.slice la lev.length lc) (setAll (x+1) (l.take k) lev)∧Fr (fun i=>Value.blk (.slice la lev.length lc)=some i) w u) rfl rfl ⟨OL,Fr.refl _ _⟩ ?_
 rintro k G u hk ⟨O,fu⟩
 have Ku:=K.fr fu hab
 have SFu:=SF.fr fu fun b hb=>(hap b hb).1
 have Su:=S.fr fu fun b hb=>(hs b hb).1
 refine ite (fun hlt=>?_) (fun hge=>?_)
 ·have hk1:k<l.length:=by omega
  have q_:∃z,z=l[k]:=⟨_,rfl⟩
  obtain⟨z,hz⟩:=q_
  have hzi:(intsN l)[k]? = some (z:Int):=by rw [hz];exact zD3 hk1
  have hzl:z<lev.length:=by rw [hz];exact hl _ (List.getElem_mem hk1)
  have hlen:=zCu (x+1) (l.take k) lev
  have hf0:(setAll (x+1) (l.take k) lev)[f0]? = some x:=by
   rw [zCt _ _ _ _ hfl,if_neg (fun h=>h0 (List.mem_of_mem_take h))];exact hx
  have hf1:(intsN fr)[0]? = some (f0:Int):=by rw [hfr];rfl
  refine rix Su hzi fun b5 o5 A5=>rload1 (A5.cell0 rfl) ?_
  refine drawRT TBok mixed (fun i=>Value.blk (.slice la lev.length lc)=some i) (.one 0 (.one 1 (.one 2 (.one 3 (.one 4 (.one 5 (.one 6 (.one 7 (.one 8 (.one 9 (.one 10 (.one 11 (.one 12 (.one 13 (.one 14 (.one 15 (.lone 16 (.one 17 (.one 18 (.one 19 .nil)))))))))))))))))))) (by kernel_rfl) fun u1 e1 _=>?_
  refine tld (B:=Ku) rfl hab (tld (B:=Ku) rfl hab (tld (B:=Ku) rfl hab ?_))
  refine tix (SFu.up (w':=u1)) hf1 fun b6 o6 A6 hb6=>tload1 (A6.cell0 rfl) (fun h=>(hap b6 hb6).1 h) ?_
  refine tix (O.sl.up (w':=u1)) hf0 fun b7 o7 A7 _=>?_
  refine rload1 (A7.cell0 rfl) ⟨Fr.refl _ _,?_⟩
  refine rar (by omega) ?_
  have q_:∃y,(setAll (x+1) (l.take k) lev)[z]? = some y:=⟨_,List.getElem?_eq_getElem (by omega)⟩
  obtain⟨y,hy⟩:=q_
  refine tixO rfl (O.up (w':=u1)) hy fun g8 hg8 hB8 A8=>?_
  refine rstO' rfl (x+1) (O.up (w':=u1)) hg8 (by omega) rfl fun w9 O9 f9 z9=>⟨f9.mono fun i _ hi=>hi.2.1,?_⟩
  have O10:Own B E.qa w9 (.slice la lev.length lc) (setAll (x+1) (l.take (k+1)) lev):=by rw [zAa hk1,zJ3,←hz];exact O9
  exact rar (by omega) ⟨rfl,hk1,O10,(fu.trans (Fr.fr e1.e)).trans (f9.mono fun i _ hi=>hi.2.1)⟩
 ·refine rsto (B:=Ku) (vs:=[.slice a2 l.length c2]) rfl rfl rfl (by intro u hu;simp at hu;subst hu;rfl) fun w4 K4 f4 _=>?_
  have hkl:k=l.length:=by omega
  rw [hkl,List.take_length] at O
  have hlen:=zCu (x+1) l lev
  refine⟨⟨a2,c2,?_,?_,?_,fun b hb=>?_,?_,hB⟩,(fu.mono fun i _ hi=>.inr hi).trans (f4.mono fun i _ hi=>.inl hi)⟩
  ·rw [hlen];exact K4
  ·rw [hlen];exact O.fr f4 fun b _ hb h=>hab (h ▸ hb)
  ·exact Su.fr f4 fun b hb h=>(hs b hb).2.1 h
  ·rw [hlen];exact⟨(hs b hb).1,(hs b hb).2.2⟩
  ·rw [hlen];exact hab
def levA (n p:Nat):List Int:=(List.replicate n (-1:Int)).set p 0
theorem zCI(n p:Nat):(levA n p).length=n:=by simp [levA]
theorem SidM.blk{bs:Nat}{fn:FuncId}{br:Nat}{la:Option Addr}{lc:Nat}{lev:List Int}{fr:List Nat}(h:SidM B w bs fn br la lc lev fr)(hl:lev≠[]):(B≤bs∧bs<w.heap.size)∧∃b,Value.blk (.slice la lev.length lc)=some b∧B≤b∧b<w.heap.size:=by
 obtain⟨fa,fc,K,O,S,h1,h2,h3⟩:=h
 exact⟨⟨h3,K.lt⟩,O.lt hl⟩
def OpenT (x:RRow) (n f t:Nat) (w:World) (v:Value) (w':World):Prop:=
 ∃ba bb br laa lca lab lcb,v=.tuple #[.agg #[.pointer (some ⟨ba,0,none⟩),.pointer (some ⟨bb,0,none⟩)],.int .i64 0]∧SidM w.heap.size w' ba F.qo br laa lca (levA n f) [f]∧SidM w.heap.size w' bb F.qg br lab lcb (levA n t) [t]∧Bk w' br (enc x) E.qo ∧
  ba<bb∧(∀b,Value.blk (.slice lab (levA n t).length lcb)=some b→ba<b∧Value.blk (.slice laa (levA n f).length lca)≠some b)∧Value.blk (.slice laa (levA n f).length lca)≠some bb∧w.heap.size≤br∧br<ba∧(∀b,Value.blk (.slice laa (levA n f).length lca)=some b→br<b)∧(∀b,Value.blk (.slice lab (levA n t).length lcb)=some b→br<b)
set_option maxHeartbeats 1000000 in
theorem zIN{x:RRow}{r:List EdN}{f t:Nat}(hg:GrIs g)(R:RwF w x g r)(hf:f<g.n)(ht:t<g.n):
  Sp PP F.c5 #[agg x,.int .i64 (f:Int),.int .i64 (t:Int)] w fun v w'=>OpenT x g.n f t w v w'∧Stp w w':=by
 have l1:=R.off.len
 have q1:=zAO g.n g.es
 have h2:=hg.ok.n2
 refine en TBok rfl ?_
 refine rbx fun br w1 n1 B1=>?_
 have B1:Bk w1 br (enc x) E.qo:=B1
 have hbr:=n1.lo (u:=w)
 have lbr:=B1.lt
 refine ral fun bp w2 n2 P2=>?_
 refine rld (B:=B1) rfl ?_
 refine rarE (y:=(g.n:Int)) (by omega) (by omega) ?_
 refine rldG (ds:=enc x) (B:=B1) rfl rfl ?_
 refine rcall (zA0 hg (R.up (w':=w2))) ?_
 rintro _ w3 ⟨rfl,e3⟩
 refine ite (fun h=>absurd h (by omega)) (fun _=>?_)
 refine ite (fun h=>absurd h (by omega)) (fun _=>?_)
 refine ite (fun h=>absurd h (by omega)) (fun _=>?_)
 refine ite (fun h=>absurd h (by omega)) (fun _=>?_)
 refine rcall (zEq (n:=g.n) (p:=f) h2 hf) ?_
 rintro _ w4 ⟨⟨ba,laa,lca,rfl,Sa⟩,e4⟩
 refine rcall (zEq (n:=g.n) (p:=t) h2 ht) ?_
 rintro _ w5 ⟨⟨bb,lab,lcb,rfl,Sb⟩,e5⟩
 refine rbuild (cs:=[.pointer (some ⟨ba,0,none⟩),.pointer (some ⟨bb,0,none⟩)]) rfl ?_
 have hbp:=n2.lo (u:=w)
 have lbp:=P2.lt
 have z2:=Le.size (a:=w1) (b:=w2)
 have z3:=Le.size (a:=w2) (b:=w3)
 have z4:=e4.e.size
 have z5:=e5.e.size
 have hla:levA g.n f≠[]:=fun h=>by have:=congrArg List.length h;rw [zCI] at this;simp at this;omega
 have hlb:levA g.n t≠[]:=fun h=>by have:=congrArg List.length h;rw [zCI] at this;simp at this;omega
 have Sa:SidM w3.heap.size w4 ba F.qo br laa lca (levA g.n f) [f]:=Sa
 have Sb:SidM w4.heap.size w5 bb F.qg br lab lcb (levA g.n t) [t]:=Sb
 have q_:=Sa.blk hla
 obtain⟨ha1,pa,hpa1,hpa2⟩:=q_
 have q_:=Sb.blk hlb
 obtain⟨hb1,pb,hpb1,hpb2⟩:=q_
 refine rsto (B:=P2.mv (w:=w5)) (vs:=[.pointer (some ⟨ba,0,none⟩),.pointer (some ⟨bb,0,none⟩)]) rfl rfl rfl (by intro u hu;simp at hu;rcases hu with rfl|rfl <;> rfl) fun w6 P6 f6 _=>?_
 have t6:Stp w w6:=⟨Fr.st (Le.e (a:=w) (b:=w5)) f6 fun i hi=>by omega⟩
 refine rresG (B:=P6) rfl ?_
 have fa6:SidM w.heap.size w6 ba F.qo br laa lca (levA g.n f) [f]:=by
  obtain⟨fa,fc,K,O,S,h1,h2,h3⟩:=Sa
  refine⟨fa,fc,(K.mv (w:=w5)).fr f6 (by omega),((O.up (w':=w5)).fr f6 fun b _ hb e=>?_).mono (by omega),(S.up (w':=w5)).fr f6 fun b hb e=>?_,fun b hb=>⟨(h1 b hb).1,by have:=(h1 b hb).2;omega⟩,h2,by omega⟩
  ·rw [hb] at hpa1;have:=Option.some.inj hpa1;omega
  ·have:=(h1 b hb).2;omega
 have fb6:SidM w.heap.size w6 bb F.qg br lab lcb (levA g.n t) [t]:=by
  obtain⟨fa,fc,K,O,S,h1,h2,h3⟩:=Sb
  refine⟨fa,fc,K.fr f6 (by omega),(O.fr f6 fun b _ hb e=>?_).mono (by omega),S.fr f6 fun b hb e=>?_,fun b hb=>⟨(h1 b hb).1,by have:=(h1 b hb).2;omega⟩,h2,by omega⟩
  ·rw [hb] at hpb1;have:=Option.some.inj hpb1;omega
  ·have:=(h1 b hb).2;omega
 have fr6:Bk w6 br (enc x) E.qo:=(B1.mv (w:=w5)).fr f6 (by have:=n2.b;omega)
 have pae:∀b,Value.blk (.slice laa (levA g.n f).length lca)=some b→b=pa:=fun b h=>by rw [h] at hpa1;exact Option.some.inj hpa1
 have pbe:∀b,Value.blk (.slice lab (levA g.n t).length lcb)=some b→b=pb:=fun b h=>by rw [h] at hpb1;exact Option.some.inj hpb1
 refine⟨⟨ba,bb,br,laa,lca,lab,lcb,rfl,fa6,fb6,fr6,by omega,fun b hb=>⟨by have:=pbe b hb;omega,fun h=>by have:=pbe b hb;have:=pae b h;omega⟩,fun h=>by have:=pae bb h;omega,hbr,by omega,fun b h=>by have:=pae b h;omega,fun b h=>by have:=pbe b h;omega⟩,t6⟩
theorem zLK{f t:Nat}(hf:f<g.n)(ht:t<g.n):LevI g (qq f t) 0 0 (levA g.n f) [f]∧LevI g (qq f t) 1 0 (levA g.n t) [t]:=⟨zHr (.inl rfl) src0 hf,zHr (.inr rfl) src1 ht⟩
theorem LevI.fl{f t d:Nat}{dir:Int}{lev:List Int}{fr:List Nat}(I:LevI g (qq f t) dir d lev fr)(hf:f<g.n)(ht:t<g.n):∀v∈fr,v<g.n:=fun v hv=>lv_lt (qq_ok hf ht) ((I.fr v).1 hv)
theorem nb_len(hg:GrIs g)(dir:Int)(v:Nat):(nbL g dir v).length≤1000000:=by
 have:=hg.rowI.len
 unfold nbL
 split
 ·rw [List.length_map];have:=List.length_filter_le (fun e=>e.t==v) g.es;omega
 ·rw [List.length_map];have:=List.length_filter_le (fun e=>e.f==v) g.es;omega
theorem zHq{x:RRow}{r:List EdN}{f t d bb br:Nat}{lab:Option Addr}{lcb:Nat}{lev:List Int}{fr:List Nat}(hg:GrIs g)(R:RwF w x g r)(hf:f<g.n)(ht:t<g.n)(Br:Bk w br (enc x) E.qo)(I:LevI g (qq f t) 1 d lev fr)(hnd:fr.length≤200)
  (Q:SidM B w bb F.qg br lab lcb lev fr):Sp PP F.q9 #[.pointer (some ⟨bb,0,none⟩)] w fun v w'=>(∃l,l.Nodup∧(∀y,y∈l↔y∈lv g (qq f t) 1 (d+1))∧Own w.heap.size E.qa w' v (intsN l))∧Stp w w':=
 (zIf (nb:=nbL g 1) Q (by rw [I.len];exact hg.ok.n2) (by omega) (fun v hv=>⟨nb_len hg 1 v,fun y hy=>by rw [I.len];exact nb_lt hg.ok hy⟩) (fun v hv u e=>by
  have:=zIh (w0:=w) (w:=u) hg Br R (I.fl hf ht v hv)
  exact this)).mono fun v w' ⟨⟨l,m,A,O⟩,e⟩=>⟨⟨l,A.nd,zLx hg.ok hf ht I A,O⟩,e⟩
theorem nd_len{f t d:Nat}{dir:Int}{l:List Nat}(hf:f<g.n)(ht:t<g.n)(hn:l.Nodup)(h:∀y,y∈l↔y∈lv g (qq f t) dir d):l.length≤g.n:=zF9 hn fun y hy=>lv_lt (qq_ok hf ht) ((h y).1 hy)
structure SeaI (g:GrD) (f t B bb br:Nat) (lab:Option Addr) (lcb:Nat) (i:Nat) (v:Value) (u:World) (d:Nat) (lev:List Int) (fr l:List Nat):Prop where
 i:i=g.n - d
 lv:LevI g (qq f t) 1 d lev fr
 fl:fr.length≤200
 ne:fr≠[]
 m:SidM B u bb F.qg br lab lcb lev fr
 nd:l.Nodup
 mem:∀y,y∈l↔y∈Go.W.lv g (qq f t) 1 (d+1)
 v:∃a c,v=.slice a l.length c∧SlF u (.slice a l.length c) (intsN l)∧(l≠[]→∀b,Value.blk (.slice a l.length c)=some b→b≠bb∧Value.blk (.slice lab g.n lcb)≠some b∧B≤b)
theorem own_sl{v:Value}{l:List Nat}{bb:Nat}{lab:Option Addr}{lcb:Nat}(O:Own w.heap.size E.qa w' v (intsN l))(h1:bb<w.heap.size)(h2:∀b,Value.blk (.slice lab n lcb)=some b→b<w.heap.size)(hB:B≤w.heap.size):
  ∃a c,v=.slice a l.length c∧SlF w' (.slice a l.length c) (intsN l)∧(l≠[]→∀b,Value.blk (.slice a l.length c)=some b→b≠bb∧Value.blk (.slice lab n lcb)≠some b∧B≤b):=by
 have hil:=zF4 l
 have q_:=O.shape
 obtain⟨a,c,rfl⟩:=q_
 have hsl:=O.sl
 rw [hil] at hsl
 refine⟨a,c,by rw [hil],hsl,fun hl b hb=>?_⟩
 have hne:intsN l≠[]:=fun h=>hl (List.map_eq_nil_iff.1 h)
 have q_:=O.lt hne
 obtain⟨b',h3,h4,h5⟩:=q_
 rw [hil] at h3
 rw [h3] at hb
 have:=Option.some.inj hb
 subst this
 exact⟨by omega,fun h=>by have:=h2 _ h;omega,by omega⟩
set_option maxHeartbeats 4000000 in
theorem zCD{x:RRow}{r:List EdN}{f t:Nat}(hg:GrIs g)(R:RwF w x g r)(hf:f<g.n)(ht:t<g.n):
  Sp PP F.c1 #[agg x,.int .i64 (f:Int),.int .i64 (t:Int)] w fun v w'=>((∃L a c,Dst g f t L∧v=.tuple #[.slice a (L+1) c,.bool true,.int .i64 0])∨((∀k,¬Wlk g k f t)∧v=.tuple #[.slice none 0 0,.bool false,.int .i64 0]))∧Stp w w':=by
 have h2:=hg.ok.n2
 refine en TBok rfl ?_
 refine rbx fun bo w1 n1 B1=>?_
 have B1:Bk w1 bo (enc x) E.qo:=B1
 refine rldG (B:=B1) rfl rfl ?_
 refine rcall (zIN hg (R.up (w':=w1)) hf ht) ?_
 rintro _ w2 ⟨⟨ba,bb,br,laa,lca,lab,lcb,rfl,Sa,Sb,Br,hab,hlab,hlaa,hbr,hbra,hbl1,hbl2⟩,e2⟩
 have hla:levA g.n f≠[]:=fun h=>by have:=congrArg List.length h;rw [zCI] at this;simp at this;omega
 have hlb:levA g.n t≠[]:=fun h=>by have:=congrArg List.length h;rw [zCI] at this;simp at this;omega
 have q_:=Sb.blk hlb
 obtain⟨hb1,pb,hpb1,hpb2⟩:=q_
 have q_:=Sa.blk hla
 obtain⟨ha1,pa,hpa1,hpa2⟩:=q_
 rw [zCI] at hlab hbl2 hpb1
 have hpb:∀b,Value.blk (.slice lab g.n lcb)=some b→b=pb:=fun b h=>by rw [h] at hpb1;exact Option.some.inj hpb1
 have z1:=Le.size (a:=w) (b:=w1)
 refine ral fun bp w3 n3 P3=>?_
 have hbp:=n3.lo (u:=w2)
 refine rsto (B:=P3) (vs:=[.pointer (some ⟨ba,0,none⟩),.pointer (some ⟨bb,0,none⟩)]) rfl rfl rfl (by intro u hu;simp at hu;rcases hu with rfl|rfl <;> rfl) fun w4 P4 f4 _=>?_
 have P4:Bk w4 bp [.pointer (some ⟨ba,0,none⟩),.pointer (some ⟨bb,0,none⟩)] E.yp:=P4
 have s4:Stp w2 w4:=⟨Fr.st (Le.e (a:=w2) (b:=w3)) f4 fun i hi=>by omega⟩
 have z4:=s4.e.size
 refine ite (fun h=>absurd rfl h) (fun _=>?_)
 refine rld (B:=P4) rfl ?_
 have I0:=(zLK hf ht).2
 refine rcall (zHq hg (R.up (w':=w4)) hf ht (Br.mv (w:=w4)) I0 (by simp) (Sb.up (w':=w4))) ?_
 rintro v5 w5 ⟨⟨l0,hnd0,hmem0,O5⟩,e5⟩
 have z5:=e5.e.size
 have Ka:∃vs,Bk w5 ba (Value.func (.func F.qo) #[] #[.pointer (some ⟨br,0,none⟩)]::vs) E.q4:=by
  obtain⟨fa,fc,K,_⟩:=Sa
  exact⟨_,K.mv (w:=w5)⟩
 obtain⟨vsa,Ka⟩:=Ka
 have hB12:w1.heap.size≤w5.heap.size:=by omega
 have hpv:=own_sl (B:=w1.heap.size) (bb:=bb) (n:=g.n) (lab:=lab) (lcb:=lcb) O5 (by omega) (fun b h=>by have:=hpb b h;omega) (by omega)
 refine loop1G TBok 12 [] 11 (fun i v u=>∃d lev fr l,SeaI g f t w1.heap.size bb br lab lcb i v u d lev fr l∧Fr (fun i=>i=bb∨Value.blk (.slice lab g.n lcb)=some i) w5 u) rfl
  ⟨g.n - 0,0,levA g.n t,[t],l0,⟨rfl,I0,by simp,by simp,(Sb.up (w':=w5)),hnd0,hmem0,hpv⟩,Fr.refl _ _⟩ ?_
 rintro i v G u ⟨d,lev,fr,l,⟨hi,I,hfl,hne,Q,hnd,hmem,hv⟩,fu⟩
 obtain⟨va,vc,rfl,SL,hbk⟩:=hv
 have hll:=I.len
 have zu:=fu.size
 have hDlo:∀i,(i=bb∨Value.blk (.slice lab g.n lcb)=some i)→w1.heap.size≤i:=fun i h=>by
  rcases h with h|h
  ·omega
  ·have:=hpb i h;omega
 have su:Stw w1 w5 u:=⟨fu.mono fun i _ hi=>hDlo i hi⟩
 have Pu:=(P4.mv (w:=w5)).fr fu fun h=>by
  rcases h with h|h
  ·omega
  ·have:=hpb _ h;omega
 have Bru:=(Br.mv (w:=w5)).fr fu fun h=>by
  rcases h with h|h
  ·omega
  ·have:=hbl2 _ h;omega
 have Kau:=Ka.fr fu fun h=>by
  rcases h with h|h
  ·omega
  ·have:=hlab _ h;omega
 refine ite (fun hlen=>?_) (fun hlen=>?_)
 ·have hlne:l≠[]:=fun h=>by rw [h] at hlen;simp at hlen
  have hbk:=hbk hlne
  have hlv:Go.W.lv g (qq f t) 1 (d+1)≠[]:=by
   have q_:=List.exists_mem_of_ne_nil _ hlne
   obtain⟨y,hy⟩:=q_
   exact List.ne_nil_of_mem ((hmem y).1 hy)
  have hdn:=zCK (qq_ok hf ht) hlv
  have hll2:=nd_len hf ht hnd hmem
  obtain⟨f0,fr',hfr⟩:∃a b,fr=a::b:=by
   cases fr with
   |nil=>exact absurd rfl hne
   |cons a b=>exact⟨a,b,rfl⟩
  have hf0:f0∈Go.W.lv g (qq f t) 1 d:=(I.fr f0).1 (by rw [hfr];exact List.mem_cons_self)
  have hx:lev[f0]? = some (d:Int):=I.yes f0 d (Nat.le_refl _) hf0
  refine rld (B:=Pu) rfl ?_
  have D7:=zIO (l:=l) (a2:=va) (c2:=vc) Q (by omega) hfr hx (by omega) (fun y hy=>by rw [hll];exact lv_lt (qq_ok hf ht) ((hmem y).1 hy)) (fun h=>by have:=zD4 hf0 ((hmem f0).1 h);omega) (by omega) SL (fun b hb=>by
   have h3:=hbk b hb
   rw [hll];exact⟨h3.2.1,h3.1,h3.2.2⟩)
  rw [hll] at D7
  refine rcall D7 ?_
  rintro _ w7 ⟨Q7,f7⟩
  have z7:=f7.size
  have I7:=zNb hf ht I hmem
  have P7:=Pu.fr f7 fun h=>by
   rcases h with h|h
   ·omega
   ·have:=hpb _ h;omega
  have Br7:=Bru.fr f7 fun h=>by
   rcases h with h|h
   ·omega
   ·have:=hbl2 _ h;omega
  have s7:Stw w1 u w7:=⟨f7.mono fun i _ hi=>hDlo i hi⟩
  refine rld (B:=P7) rfl ?_
  refine rcall (zHq hg (R.up (w':=w7)) hf ht Br7 I7 (by omega) Q7) ?_
  rintro v8 w8 ⟨⟨l8,hnd8,hmem8,O8⟩,e8⟩
  have hpv8:=own_sl (B:=w1.heap.size) (bb:=bb) (n:=g.n) (lab:=lab) (lcb:=lcb) O8 (by omega) (fun b h=>by have:=hpb b h;omega) (by omega)
  exact⟨g.n - (d+1),by omega,d+1,_,l,l8,⟨rfl,I7,by omega,hlne,Q7.up (w':=w8),hnd8,hmem8,hpv8⟩,(fu.trans f7).trans (Fr.fr e8.e)⟩
 ·have hl0:l=[]:=List.eq_nil_of_length_eq_zero (by omega)
  have hlv:Go.W.lv g (qq f t) 1 (d+1)=[]:=by
   cases h:Go.W.lv g (qq f t) 1 (d+1) with
   |nil=>rfl
   |cons y q=>have:=(hmem y).2 (by rw [h];exact List.mem_cons_self);rw [hl0] at this;cases this
  have hend:=fun v hv=>zNH hg.ok hf ht I hlv (v:=v) hv
  obtain⟨fa,fc,K,O,SF,hap,hab2,hB⟩:=Q
  rw [hll] at K O
  refine rld (B:=Pu) rfl ?_
  refine rld (B:=K) rfl ?_
  have q_:=hend f hf
  rcases q_ with ⟨L,hD,hLf⟩|⟨hno,hLf⟩
  case inr =>
   refine rix O.sl hLf fun b6 o6 A6=>rload1 (A6.cell0 rfl) ?_
   refine ite (fun _=>?_) (fun h=>absurd (by decide) h)
   exact⟨.inr ⟨hno,rfl⟩,stp⟩
  have hLn:L<g.n:=by
   have h3:=(zCv hg.ok (rfl:(qq f t).kind=1) L f).2 (by rw [show (qq f t).to.toNat=t by simp [qq]];exact hD)
   exact zCK (qq_ok hf ht) (List.ne_nil_of_mem h3)
  refine rix O.sl hLf fun b6 o6 A6=>rload1 (A6.cell0 rfl) ?_
  refine ite (fun h=>absurd h (by omega)) (fun _=>?_)
  refine rbs (vs:=[.int .i64 (f:Int)]) [(f:Int)] rfl rfl rfl (by decide) fun b7 w7 n7 S7=>?_
  have s7:Stp u w7:=⟨n7.ext⟩
  have O7:Own u.heap.size E.qa w7 (.slice (some ⟨b7,0,none⟩) 1 1) [(f:Int)]:=n7.own rfl rfl (by decide) (Nat.le_refl _)
  refine loop3 TBok 15 [] 12 13 14 (fun v1 v2 v3 y=>∃k u0:Nat,v1=.int .i64 (k:Int)∧v3=.int .i64 (u0:Int)∧u0<g.n∧Dst g u0 t k∧∃pl:List Int,pl.length+k=L+1∧Own u.heap.size E.qa y v2 pl∧Stp u y) (fun v1 _ _ _=>(Go.RowKit.intOf v1).toNat) rfl
   ⟨L,f,rfl,rfl,hf,hD,[(f:Int)],by simp;omega,O7,s7⟩ ?_
  rintro _ v2 _ G8 w8 ⟨k,u0,rfl,rfl,hu0,hDk,pl,hpl,O8,s8⟩
  refine ite (fun hk=>?_) (fun hk=>?_)
  ·have q_:∃k',k=k'+1:=⟨k - 1,by omega⟩
   obtain⟨k',rfl⟩:=q_
   refine rld (B:=Pu) rfl ?_
   refine rld (B:=Kau) rfl ?_
   refine rcall (zIg (w0:=w8) (w:=w8) hg (Bru.mv (w:=w8)) (R.up (w':=w8)) hu0) ?_
   rintro _ w9 ⟨⟨na,nc,rfl,SN,_⟩,e9⟩
   have hnl:=nb_len hg 0 u0
   refine cnt2 TBok 65 [15,16] 13 14 65 (nbL g 0 u0).length (fun j p q y=>p=v2∧q=.int .i64 (u0:Int)∧(∀i (hi:i<(nbL g 0 u0).length),i<j→lev[(nbL g 0 u0)[i]]?≠some (k':Int))∧Stp w9 y) rfl rfl ⟨rfl,rfl,fun i hi h=>absurd h (by omega),stp⟩ ?_
   rintro j _ _ G10 w10 hj ⟨rfl,rfl,hnot,s10⟩
   refine ite (fun hlt=>?_) (fun hge=>?_)
   ·have hj1:j<(nbL g 0 u0).length:=by omega
    have q_:∃z,z=(nbL g 0 u0)[j]:=⟨_,rfl⟩
    obtain⟨z,hz⟩:=q_
    have hzi:(intsN (nbL g 0 u0))[j]? = some (z:Int):=by rw [hz];exact zD3 hj1
    have hzn:z<g.n:=by rw [hz];exact nb_lt hg.ok (List.getElem_mem hj1)
    have hzl:∃y,lev[z]? = some y:=⟨_,List.getElem?_eq_getElem (by omega)⟩
    obtain⟨y,hy⟩:=hzl
    refine rix (SN.up (w':=w10)) hzi fun b11 o11 A11=>rload1 (A11.cell0 rfl) ?_
    refine rld (B:=Pu) rfl ?_
    refine rld (B:=K) rfl ?_
    refine rix (O.sl.up (w':=w10)) hy fun b12 o12 A12=>rload1 (A12.cell0 rfl) ?_
    refine rarE (y:=(k':Int)) (by omega) (by omega) ?_
    refine ite (fun heq=>?_) (fun heq=>?_)
    ·have hDz:Dst g z t k':=by
      have q_:=hend z hzn
      rcases q_ with ⟨L',h3,h4⟩|⟨_,h4⟩
      ·rw [hy] at h4
       have:=Option.some.inj h4
       have h5:L'=k':=by omega
       rw [←h5];exact h3
      ·rw [hy] at h4
       have:=Option.some.inj h4
       omega
     refine rbs1 (z:Int) rfl rfl (by decide) fun b13 w13 e13 _ S13=>?_
     refine rapp1 (u:=u) ⟨rfl,rfl⟩ (O8.up (w':=w13)) S13 (by omega) fun v14 w14 O14 f14 s14=>?_
     have t14:Stp u w14:=stp
     refine rarE (y:=(k':Int)) (by omega) (by omega) ?_
     refine⟨⟨k',z,rfl,rfl,hzn,hDz,_,by rw [List.length_append];simp only [List.length_cons,List.length_nil];omega,O14,t14⟩,?_⟩
     show ((k':Int)).toNat<(((k'+1:Nat):Int)).toNat
     omega
    ·refine rar (by omega) ⟨rfl,hj1,rfl,rfl,fun i hi h=>?_,stp⟩
     have q_:=Nat.lt_or_ge i j
     rcases q_ with h3|h3
     ·exact hnot i hi h3
     ·have h4:i=j:=by omega
      subst h4
      intro h5
      rw [←hz,hy] at h5
      exact heq (Option.some.inj h5)
   ·exfalso
    have q_:=zLh hDk
    obtain⟨z,hz,hDz⟩:=q_
    have q_:=List.mem_iff_getElem.1 hz
    obtain⟨i,hi,hzi⟩:=q_
    refine hnot i hi (by omega) ?_
    rw [hzi]
    have q_:=hend z (nb_lt hg.ok hz)
    rcases q_ with ⟨L',h3,h4⟩|⟨h3,_⟩
    ·rw [h4,Dst.uniq h3 hDz]
    ·exact absurd hDz.1 (h3 _)
  ·have hk0:k=0:=by omega
   subst hk0
   have q_:=O8.shape
   obtain⟨a8,c8,rfl⟩:=q_
   have hv8:Value.tuple #[.slice a8 pl.length c8,.bool true,.int .i64 0]=.tuple #[.slice a8 (L+1) c8,.bool true,.int .i64 0]:=by rw [show pl.length=L+1 by omega]
   exact⟨.inl ⟨L,a8,c8,hD,hv8⟩,stp⟩
theorem zBN{x:RCfg}{im:List UInt8}{c:Nat}{l:List REv}(h:SlF w (.slice a n c) l):
  Sp PP F.pe #[agg x,txt im,.slice a n c] w fun v w'=>(v=.bool false∨(v=.bool true∧l.length≤80∧∀y∈l,y.frame.length≤300))∧Stp w w':=by
 have q_:=h.len
 obtain rfl:=q_
 refine en TBok rfl ?_
 refine rbx fun b w1 n1 B1=>?_
 have B1:Bk w1 b (enc x) E.qu:=B1
 refine cnt TBok 8 [6] 7 l.length (fun k u=>(∀y∈l.take k,y.frame.length≤300)∧Stp w1 u) rfl rfl ⟨by simp,stp⟩ ?_
 rintro k g u hk ⟨hm,su⟩
 have fin:(l.length≤80→k=l.length)→∀u,Stp w u→l.length≤80→(Value.bool true=Value.bool false∨(Value.bool true=Value.bool true∧l.length≤80∧∀y∈l,y.frame.length≤300))∧Stp w u:=fun hf u hu h8=>by
  have h1:=hf h8
  rw [h1,List.take_length] at hm
  exact⟨.inr ⟨rfl,h8,hm⟩,hu⟩
 refine ite (fun hlt=>?_) (fun hge=>?_)
 ·refine ite (fun h2=>?_) (fun h2=>?_)
  ·have hk1:k<l.length:=by omega
   have hi:l[k]? = some l[k]:=by simp
   refine rix (i:=k) (h.up (w':=u)) hi fun b2 o2 A2=>?_
   refine rload1 (A2.cell 1 rfl) ?_
   refine ite (fun h3=>?_) (fun h3=>?_)
   ·exact⟨.inl rfl,stp⟩
   ·refine rix (i:=k) (h.up (w':=u)) hi fun b3 o3 A3=>?_
    refine rload1 (A3.cell 2 rfl) ?_
    have h3:¬(300:Int)<(l[k].frame.length:Int):=h3
    refine ite (fun h4=>?_) (fun h4=>?_)
    ·exact⟨.inl rfl,stp⟩
    ·refine rar (by omega) ⟨rfl,hk1,fun y hy=>?_,stp⟩
     rw [zAa hk1] at hy
     have q_:=List.mem_append.1 hy
     rcases q_ with h5|h5
     ·exact hm y h5
     ·rw [List.mem_singleton.1 h5];omega
  ·refine ite (fun h5=>absurd h5 h2) (fun _=>?_)
   exact⟨.inl rfl,stp⟩
 ·refine ite (fun h5=>?_) (fun h5=>?_)
  ·have h8:l.length≤80:=by omega
   refine ite (fun h6=>?_) (fun h6=>?_)
   ·refine rld (B:=B1.mv (w:=u)) rfl ?_
    refine ite (fun h7=>?_) (fun h7=>?_)
    ·exact fin (fun _=>by omega) _ stp h8
    ·exact⟨.inl rfl,stp⟩
   ·exact⟨.inl rfl,stp⟩
  ·exact⟨.inl rfl,stp⟩
set_option maxHeartbeats 2000000 in
theorem zAH:Sp PP F.zp #[] w fun v w'=>v=.bool true∧Stp w w':=by
 refine en TBok rfl ?_
 refine rbuild (cs:=enc (⟨1,1,1,9,9⟩:RCfg)) rfl ?_
 have hc:cfgOk ⟨1,1,1,9,9⟩:=by unfold cfgOk;decide
 refine rcall (zIz (x:=⟨1,1,1,9,9⟩) (f:=im0) (by decide) hc im0_g) ?_
 rintro _ w2 ⟨⟨bs,rfl,S2⟩,e2⟩
 have hcf:cfOf ⟨1,1,1,9,9⟩=c0:=rfl
 rw [hcf] at S2
 have z2:=e2.e.size
 refine rpnil ?_
 refine ite (fun h=>absurd rfl h) (fun _=>?_)
 have D3:=zDz (f:=[7,1,0,1]) S2 z2 (by decide)
 rw [come7] at D3
 refine rcall D3 ?_
 rintro _ w3 ⟨rfl,S3,f3⟩
 have z3:=f3.size
 have t3:Stw w w2 w3:=S2.stw f3 (Nat.le_refl _)
 have D5:=zBW (ps:=[]) S3 (by omega) fun u _=>SlF.nil u
 rw [tick7a] at D5
 refine rcall D5 ?_
 rintro _ w5 ⟨R5,O5,_,S5,_,f5⟩
 have z5:=f5.size
 have t5:Stw w w3 w5:=S3.stw f5 (Nat.le_refl _)
 have D6:=zBW (ps:=[]) S5 (by omega) fun u _=>SlF.nil u
 rw [tick7b] at D6
 refine rcall D6 ?_
 rintro _ w6 ⟨R6,O6,hoff,S6,_,f6⟩
 have z6:=f6.size
 have t6:Stw w w5 w6:=S5.stw f6 (Nat.le_refl _)
 have q_:=O5.shape
 obtain⟨a5,c5,rfl⟩:=q_
 have q_:=O6.shape
 obtain⟨a6,c6,rfl⟩:=q_
 refine ite (fun _=>?_) (fun h=>absurd (by simp) h)
 refine ite (fun _=>?_) (fun h=>absurd (by simp) h)
 refine rix (i:=0) O6.sl (x:=bsOf [7,0,1,1,0]) rfl fun b9 o9 A9=>rload1 (A9.cell0 rfl) ?_
 refine rseq (fun _=>?_) (fun h=>absurd rfl h)
 exact⟨rfl,stp⟩
theorem RowO.f{x:RRow}{r:List EdN}(h:RowO B w x g r):RwF w x g r:=⟨h.rev',h.off.sl,h.to.sl,h.rof.sl,h.rev.sl⟩
theorem RowO.fr{x:RRow}{r:List EdN}(h:RowO B w x g r)(f:Fr D w w')(hD:∀i,B≤i→¬D i):RowO B w' x g r:=
 ⟨h.rev',h.off.fr f fun b hb _=>hD b hb,h.to.fr f fun b hb _=>hD b hb,h.rof.fr f fun b hb _=>hD b hb,h.rev.fr f fun b hb _=>hD b hb⟩
theorem RowO.up[L:Le w w']{x:RRow}{r:List EdN}(h:RowO B w x g r):RowO B w' x g r:=h.fr L.e fun _ _ h=>h
theorem way_of{a:AnP}(W:WlkA g q a)(hk:q.kind=1∨q.kind=2∨q.kind=3):
  (q.kind=1∧((∃L:Nat,Dst g q.frm.toNat q.to.toNat L∧a.found=true∧a.num=(L:Int))∨((∀k,¬Wlk g k q.frm.toNat q.to.toNat)∧a.found=false))∧a.hits=[]) ∨
  (q.kind=2∧((∃L:Nat,Dst g q.frm.toNat q.to.toNat L∧a.found=true)∨((∀k,¬Wlk g k q.frm.toNat q.to.toNat)∧a.found=false))∧a.hits=[]) ∨
  (q.kind=3∧∀h∈a.hits,∃v d:Nat,h=⟨(v:Int),(d:Int)⟩∧v<g.n∧Dst g q.frm.toNat v d∧(d:Int)≤q.rad):=by
 rcases hk with hk|hk|hk
 ·left
  have q_:=W.dist hk
  rcases q_ with ⟨L,h1,rfl⟩|⟨h1,rfl⟩
  ·exact⟨hk,.inl ⟨L,h1,rfl,rfl⟩,rfl⟩
  ·exact⟨hk,.inr ⟨h1,rfl⟩,rfl⟩
 ·right;left
  have q_:=W.reach hk
  rcases q_ with ⟨⟨L,h1⟩,rfl⟩|⟨h1,rfl⟩
  ·exact⟨hk,.inl ⟨L,h1,rfl⟩,rfl⟩
  ·exact⟨hk,.inr ⟨h1,rfl⟩,rfl⟩
 ·exact .inr (.inr ⟨hk,W.near hk⟩)
theorem zNl{c:CfD}(hg:GrOk g){x:RqD}{a:AnP}(hx:RqOk g x)(h:AlRep g c x a)(hk:x.q.kind=3):a.hits.length≤100:=by
 obtain⟨i,_,_,_,hd,rfl⟩:=h
 have hq:=hx.q.ok
 have q_:=zHw hg hq hk hd
 obtain⟨_,h2⟩:=q_
 rw [h2]
 have h4:=(hq.near hk).2.2.2.2.2
 exact Nat.le_trans (zDU (k:=x.q.most)).1 (by omega)
theorem zHz(hg:GrOk g){f v L:Nat}(hf:f<g.n)(h:Dst g f v L):L<g.n:=by
 have hq:=qq_ok hf hf
 refine zCK (dir:=0) hq (d:=L) fun h0=>?_
 have h1:v∈lv g (qq f f) 0 L:=(zDr hg hq L v).2 ⟨by simpa [qq] using h,fun h=>absurd h qq_k⟩
 rw [h0] at h1;cases h1
set_option maxHeartbeats 4000000 in
theorem zDG{x:RCfg}{im:List UInt8}(him:im.length≤4611686018427387904){c:Nat}{l:List REv}(h:SlF w (.slice a n c) l)(hm:EvsM w l):
  Sp PP F.zo #[agg x,txt im,.slice a n c] w fun v w'=>v=.bool true∧Stp w w':=by
 have q_:=h.len
 obtain rfl:=q_
 refine en TBok rfl ?_
 refine rbx fun b w1 n1 B1=>?_
 have B1:Bk w1 b (enc x) E.qu:=B1
 refine rldG (B:=B1) rfl rfl ?_
 by_cases hq:cfgOk x∧∃g,imgOf im=some g
 case neg =>
  refine rcall (zMf him hq) ?_
  rintro _ w2 ⟨⟨e,rfl,he⟩,e2⟩
  refine rldG (B:=B1) rfl rfl ?_
  refine rcall (zBN h.up) ?_
  rintro _ w4 ⟨rfl|⟨rfl,hs,hi⟩,e4⟩
  ·refine rcall zAH ?_
   rintro _ w5 ⟨rfl,e5⟩
   exact⟨rfl,stp⟩
  ·refine rpnil ?_
   refine rcall zAH ?_
   rintro _ w5 ⟨rfl,e5⟩
   exact⟨rfl,stp⟩
 obtain⟨hc,g,hi⟩:=hq
 refine rcall (zIz him hc hi) ?_
 rintro _ w2 ⟨⟨bs,rfl,S0⟩,e2⟩
 have z2:=e2.e.size
 refine rldG (B:=B1) rfl rfl ?_
 refine rcall (zBN h.up) ?_
 rintro _ w4 ⟨rfl|⟨rfl,hs,hi4⟩,e4⟩
 ·refine rcall zAH ?_
  rintro _ w5 ⟨rfl,e5⟩
  exact⟨rfl,stp⟩
 refine rpnil ?_
 refine ite (fun h=>absurd rfl h) (fun _=>?_)
 have z4:=e4.e.size
 have hgi:=zIZ hi
 have hn2:=hgi.ok.n2
 refine rcall (zDq him) ?_
 rintro _ w5 ⟨hp,e5⟩
 rcases hp with ⟨g',xg,vs,hi',rfl,V⟩|⟨hn,rfl⟩
 case' inr=>rw [hi] at hn;cases hn
 have hgg:g'=g:=Option.some.inj (hi'.symm.trans hi)
 rw [hgg] at V
 have z5:=e5.e.size
 refine ral fun bg w6 n6 X6=>?_
 have hbg:=n6.lo (u:=w5)
 refine rsto (B:=X6) (vs:=enc xg) rfl rfl rfl (Enc.one _) fun w7 X7 f7 _=>?_
 have X7:Bk w7 bg (enc xg) E.qe:=X7
 have t7:Stp w5 w7:=⟨Fr.st (Le.e (a:=w5) (b:=w6)) f7 fun i hi=>by omega⟩
 refine rldG (ds:=enc xg) (B:=X7) rfl rfl ?_
 refine rcall (zE9 (V.up (w':=w7)) hgi) ?_
 rintro _ w8 ⟨⟨xr,r,rfl,RO⟩,e8⟩
 have z8:=e8.e.size
 have z7:=t7.e.size
 refine ral fun br w9 n9 X9=>?_
 have hbr:=n9.lo (u:=w8)
 refine rsto (B:=X9) (vs:=enc xr) rfl rfl rfl (Enc.one _) fun w10 X10 f10 _=>?_
 have X10:Bk w10 br (enc xr) E.qo:=X10
 have t10:Stp w8 w10:=⟨Fr.st (Le.e (a:=w8) (b:=w9)) f10 fun i hi=>by omega⟩
 have z10:=t10.e.size
 have RO10:=RO.up (w':=w10)
 have S10:=S0.up (w':=w10)
 refine rcall (zDH (l:=l) S10 (by omega) rfl (fun u fu=>by
  have t:Stw w1 w10 u:=S10.stw fu (Nat.le_refl _)
  exact SlF.up (w:=w) h) (fun y hy=>by
  have q_:=hm y hy
  obtain⟨ps,hps⟩:=q_
  exact⟨ps,fun u fu=>by
   have t:Stw w1 w10 u:=S10.stw fu (Nat.le_refl _)
   exact SlF.up (w:=w) hps⟩) hs hi4) ?_
 rintro _ w11 ⟨vo,R',s,took,out,ys,xs,vt,rfl,P⟩
 have RO11:=RO10.fr P.fr fun i h1 h2=>by have h3:i<w2.heap.size:=h2.2;omega
 have X11:=X10.fr P.fr (fun h2=>by have h3:br<w2.heap.size:=h2.2;omega)
 have t11:Stw w1 w10 w11:=S10.stw P.fr (Nat.le_refl _)
 refine ite (fun h=>absurd h (by decide)) (fun _=>?_)
 refine ite (fun h=>absurd h (by decide)) (fun _=>?_)
 obtain⟨_,I,_,O,_,_,_,_⟩:=P
 have hxl:=O.len
 have q_:∃n,n=xs.length:=⟨_,rfl⟩
 obtain⟨nx,hnx⟩:=q_
 have q_:=O.own.shape
 obtain⟨ao,co,hvo⟩:=q_
 rw [←hnx] at hvo
 subst hvo
 refine cnt TBok 16 [6] 15 nx (fun k u=>Stp w11 u) rfl rfl stp ?_
 rintro k G u hk su
 refine ite (fun hlt=>?_) (fun hge=>?_)
 ·have hk1:k<xs.length:=by omega
  have hxk:xs[k]? = some xs[k]:=by simp
  have hdk:out[k]? = some (out[k]'(by omega)):=by simp
  have q_:∃z,z=xs[k]:=⟨_,rfl⟩
  obtain⟨z,hz⟩:=q_
  have q_:∃d,d=out[k]'(by omega):=⟨_,rfl⟩
  obtain⟨d,hd⟩:=q_
  have hdm:d∈out:=by rw [hd];exact List.getElem_mem _
  rw [←hz] at hxk
  rw [←hd] at hdk
  have q_:=O.all k z d hxk hdk
  obtain⟨⟨k1,k2,k3,k4,k5,k6⟩,HO⟩:=q_
  have q_:=I.out d hdm
  obtain⟨hrq,hal⟩:=q_
  have W:=way_of (al_wlk hgi.ok hrq hal) hrq.q.1
  have hfr:=hrq.q.ok.frm
  have hto:=hrq.q.ok.to
  obtain⟨⟨zk,zf,zt,zw,zr,zm⟩,zi,zc,zfo,zn,zs⟩:=z
  dsimp only at k1 k2 k3 k4 k5 k6 hxk HO
  have HS:=HO.sl
  have HL:zs.n=d.2.hits.length:=HO.1
  have q_:∃f:Nat,f=d.1.q.frm.toNat:=⟨_,rfl⟩
  obtain⟨f,hf⟩:=q_
  have q_:∃f:Nat,f=d.1.q.to.toNat:=⟨_,rfl⟩
  obtain⟨t,ht⟩:=q_
  rw [←hf,←ht] at W
  have hzf:((f:Nat):Int)=zf:=by rw [hf,k2];exact Int.toNat_of_nonneg hfr.1
  have hfn:f<g.n:=by have h1:=hfr.2;rw [←k2,←hzf] at h1;exact Int.ofNat_lt.1 h1
  have hzt:d.1.q.kind<3→((t:Nat):Int)=zt∧t<g.n:=fun h3=>by
   have h4:=hto h3
   have h5:((t:Nat):Int)=zt:=by rw [ht,k3];exact Int.toNat_of_nonneg h4.1
   have h1:=h4.2
   rw [←k3,←h5] at h1
   exact⟨h5,Int.ofNat_lt.1 h1⟩
  refine rix (i:=k) (O.own.sl.up (w':=u)) hxk fun b1 o1 A1=>?_
  refine rloadA (A1.sub 0 6) rfl ?_
  refine ral fun bq w12 n12 Y12=>?_
  have hbq:=n12.lo (u:=u)
  refine rsto (B:=Y12) (vs:=enc (⟨zk,zf,zt,zw,zr,zm⟩:RQ)) rfl rfl rfl (Enc.one _) fun w13 Y13 f13 _=>?_
  have Y13:Bk w13 bq (enc (⟨zk,zf,zt,zw,zr,zm⟩:RQ)) E.qr:=Y13
  have t13:Stp u w13:=⟨Fr.st (Le.e (a:=u) (b:=w12)) f13 fun i hi=>by omega⟩
  refine rix (i:=k) (O.own.sl.up (w':=w13)) hxk fun b2 o2 A2=>?_
  refine rloadA (A2.sub 8 3) rfl ?_
  refine ral fun ba w14 n14 Y14=>?_
  have hba:=n14.lo (u:=w13)
  refine rsto (B:=Y14) (vs:=enc (⟨zfo,zn,zs⟩:AnsD)) rfl rfl rfl (Enc.one _) fun w15 Y15 f15 _=>?_
  have Y15:Bk w15 ba (enc (⟨zfo,zn,zs⟩:AnsD)) E.qi:=Y15
  have t15:Stp w13 w15:=⟨Fr.st (Le.e (a:=w13) (b:=w14)) f15 fun i hi=>by omega⟩
  refine rld (B:=Y13.mv (w:=w15)) rfl ?_
  rcases W with ⟨hk',hW,hh⟩|⟨hk',hW,hh⟩|⟨hk',hW⟩
  ·have hk1':zk=1:=by rw [k1,hk']
   have hzt:=hzt (by rw [hk'];decide)
   have h0:d.2.hits.length=0:=by rw [hh];rfl
   refine ite (fun _=>?_) (fun h=>absurd (show zk<3 by rw [hk1'];decide) h)
   refine rldG (ds:=enc xr) (B:=X11.mv (w:=w15)) rfl rfl ?_
   refine rld (B:=Y13.mv (w:=w15)) rfl ?_
   refine rld (B:=Y13.mv (w:=w15)) rfl ?_
   have D:=zCD (f:=f) (t:=t) hgi (RO11.f.up (w':=w15)) hfn hzt.2
   rw [hzf,hzt.1] at D
   refine rcall D ?_
   rintro _ w16 ⟨hp,e16⟩
   rcases hp with ⟨L,pa,pc,hL,rfl⟩|⟨hN,rfl⟩
   ·rcases hW with ⟨L',hL',hfo,hnu⟩|⟨hN,_⟩
    case' inr=>exact absurd hL.1 (hN L)
    have hLL:L=L':=hL.uniq hL'
    refine ite (fun h=>absurd rfl h) (fun _=>?_)
    refine rld (B:=Y15.mv (w:=w16)) rfl ?_
    refine rbne (fun h=>absurd (by rw [k5,hfo]) h) (fun _=>?_)
    refine rld (B:=Y13.mv (w:=w16)) rfl ?_
    refine ite (fun _=>?_) (fun h=>absurd hk1' h)
    refine rld (B:=Y15.mv (w:=w16)) rfl ?_
    have hnL:zn=((L:Nat):Int):=by rw [k6,hnu,hLL]
    have hLs:=zHz hgi.ok hfn hL
    have hnL1:zn+1=((L+1:Nat):Int):=by rw [hnL];rfl
    refine rarE hnL1 (by omega) ?_
    refine ite (fun h=>absurd rfl h) (fun _=>?_)
    refine cnt TBok 22 [6] 21 0 (fun _ u=>Stp w16 u) rfl rfl stp ?_
    rintro m Gm um hm9 sm
    refine rld (B:=Y15.mv (w:=um)) rfl ?_
    refine ite (fun h9=>absurd h9 (show ¬((m:Nat):Int)<((zs.n:Nat):Int) by omega)) (fun _=>?_)
    exact rar (by omega) ⟨rfl,by omega,stp⟩
   ·rcases hW with ⟨L',hL',hfo,hnu⟩|⟨_,hfo⟩
    case' inl=>exact absurd hL'.1 (hN L')
    refine ite (fun h=>absurd rfl h) (fun _=>?_)
    refine rld (B:=Y15.mv (w:=w16)) rfl ?_
    refine rbne (fun h=>absurd (by rw [k5,hfo]) h) (fun _=>?_)
    refine rld (B:=Y13.mv (w:=w16)) rfl ?_
    refine ite (fun _=>?_) (fun h=>absurd hk1' h)
    refine cnt TBok 22 [6] 21 0 (fun _ u=>Stp w16 u) rfl rfl stp ?_
    rintro m Gm um hm9 sm
    refine rld (B:=Y15.mv (w:=um)) rfl ?_
    refine ite (fun h9=>absurd h9 (show ¬((m:Nat):Int)<((zs.n:Nat):Int) by omega)) (fun _=>?_)
    exact rar (by omega) ⟨rfl,by omega,stp⟩
  ·have hk1':zk=2:=by rw [k1,hk']
   have hzt:=hzt (by rw [hk'];decide)
   have h0:d.2.hits.length=0:=by rw [hh];rfl
   refine ite (fun _=>?_) (fun h=>absurd (show zk<3 by rw [hk1'];decide) h)
   refine rldG (ds:=enc xr) (B:=X11.mv (w:=w15)) rfl rfl ?_
   refine rld (B:=Y13.mv (w:=w15)) rfl ?_
   refine rld (B:=Y13.mv (w:=w15)) rfl ?_
   have D:=zCD (f:=f) (t:=t) hgi (RO11.f.up (w':=w15)) hfn hzt.2
   rw [hzf,hzt.1] at D
   have hk2':¬zk=1:=by rw [hk1'];decide
   refine rcall D ?_
   rintro _ w16 ⟨hp,e16⟩
   rcases hp with ⟨L,pa,pc,hL,rfl⟩|⟨hN,rfl⟩
   ·rcases hW with ⟨L',hL',hfo⟩|⟨hN,_⟩
    case' inr=>exact absurd hL.1 (hN L)
    refine ite (fun h=>absurd rfl h) (fun _=>?_)
    refine rld (B:=Y15.mv (w:=w16)) rfl ?_
    refine rbne (fun h=>absurd (by rw [k5,hfo]) h) (fun _=>?_)
    refine rld (B:=Y13.mv (w:=w16)) rfl ?_
    refine ite (fun h=>absurd h hk2') (fun _=>?_)
    refine cnt TBok 22 [6] 21 0 (fun _ u=>Stp w16 u) rfl rfl stp ?_
    rintro m Gm um hm9 sm
    refine rld (B:=Y15.mv (w:=um)) rfl ?_
    refine ite (fun h9=>absurd h9 (show ¬((m:Nat):Int)<((zs.n:Nat):Int) by omega)) (fun _=>?_)
    exact rar (by omega) ⟨rfl,by omega,stp⟩
   ·rcases hW with ⟨L',hL',hfo⟩|⟨_,hfo⟩
    case' inl=>exact absurd hL'.1 (hN L')
    refine ite (fun h=>absurd rfl h) (fun _=>?_)
    refine rld (B:=Y15.mv (w:=w16)) rfl ?_
    refine rbne (fun h=>absurd (by rw [k5,hfo]) h) (fun _=>?_)
    refine rld (B:=Y13.mv (w:=w16)) rfl ?_
    refine ite (fun h=>absurd h hk2') (fun _=>?_)
    refine cnt TBok 22 [6] 21 0 (fun _ u=>Stp w16 u) rfl rfl stp ?_
    rintro m Gm um hm9 sm
    refine rld (B:=Y15.mv (w:=um)) rfl ?_
    refine ite (fun h9=>absurd h9 (show ¬((m:Nat):Int)<((zs.n:Nat):Int) by omega)) (fun _=>?_)
    exact rar (by omega) ⟨rfl,by omega,stp⟩
  ·have hk1':¬zk<3:=by rw [k1,hk'];decide
   refine ite (fun h=>absurd h hk1') (fun _=>?_)
   have hh100:=zNl hgi.ok hrq hal hk'
   have q_:∃n,n=d.2.hits.length:=⟨_,rfl⟩
   obtain⟨nh,hnh⟩:=q_
   refine cnt TBok 22 [6] 21 nh (fun _ u=>Stp w15 u) rfl rfl stp ?_
   rintro m Gm um hm9 sm
   refine rld (B:=Y15.mv (w:=um)) rfl ?_
   refine ite (fun h9=>?_) (fun _=>?_)
   ·have h9:((m:Nat):Int)<((zs.n:Nat):Int):=h9
    have hm1:m<d.2.hits.length:=by omega
    have hhm:d.2.hits[m]? = some d.2.hits[m]:=by simp
    have q_:∃y,y=d.2.hits[m]:=⟨_,rfl⟩
    obtain⟨y,hy⟩:=q_
    rw [←hy] at hhm
    have q_:=hW y (by rw [hy];exact List.getElem_mem _)
    obtain⟨v,dd,hyv,hv,hdd,hdr⟩:=q_
    rw [hyv] at hhm
    refine drawRT TBok mixed (fun _=>False) (.one 0 (.one 1 (.one 2 (.one 3 (.one 4 (.one 5 (.one 6 (.one 7 (.one 8 (.one 9 (.one 10 (.one 11 (.one 12 (.one 13 (.one 14 (.one 15 (.one 16 .nil))))))))))))))))) (by kernel_rfl) fun u17 e17 _=>?_
    refine tldG (ds:=enc xr) (B:=X11.mv (w:=u17)) rfl rfl id ?_
    refine tld (B:=Y13.mv (w:=u17)) rfl id ?_
    refine tld (B:=Y15.mv (w:=u17)) rfl id ?_
    refine tix (HS.up (w':=u17)) hhm fun b18 o18 A18 _=>tload1 (A18.cell 0 rfl) id ?_
    have D:=zCD (f:=f) (t:=v) hgi (RO11.f.up (w':=u17)) hfn hv
    rw [hzf] at D
    refine rcall D ?_
    rintro _ w16 ⟨hp,e16⟩
    refine⟨Fr.fr e16.e,?_⟩
    rcases hp with ⟨L,pa,pc,hL,rfl⟩|⟨hN,rfl⟩
    case' inr=>exact absurd hdd.1 (hN dd)
    have hLd:L=dd:=hL.uniq hdd
    have hLs:=zHz hgi.ok hfn hL
    refine drawR TBok mixed (fun _=>False) (upF 29 0) (by kernel_rfl) fun u19 e19 _=>?_
    refine ite (fun h=>absurd rfl h) (fun _=>?_)
    refine tld (B:=Y15.mv (w:=u19)) rfl id ?_
    refine tix (HS.up (w':=u19)) hhm fun b20 o20 A20 _=>tload1 (A20.cell 1 rfl) id ?_
    refine rarE (show ((dd:Nat):Int)+1=((L+1:Nat):Int) by rw [hLd];rfl) (by omega) ?_
    refine ite (fun h=>absurd rfl h) (fun _=>?_)
    refine tld (B:=Y15.mv (w:=u19)) rfl id ?_
    refine tix (HS.up (w':=u19)) hhm fun b21 o21 A21 _=>tload1 (A21.cell 1 rfl) id ?_
    refine tld (B:=Y13.mv (w:=u19)) rfl id ?_
    refine ite (fun h=>absurd h (show ¬zr<((dd:Nat):Int) by rw [k4];omega)) (fun _=>?_)
    exact rar (by omega) ⟨rfl,by omega,stp⟩
   ·exact rar (by omega) ⟨rfl,by omega,stp⟩
 ·refine rcall zAH ?_
  rintro _ w5 ⟨rfl,e5⟩
  exact⟨rfl,stp⟩
end Go.W
